/- IcmpParses, without the row: what Parse answers to any bytes; its Data is a window. -/
import Derived.Test.YtjngdcilnipjcaaDoorIc7
namespace Go.Eng
open Go Go.RowKit
set_option maxRecDepth 100000 in
theorem xor_bound {x : Int} (h0 : 0 ≤ x) (h1 : x < 256) : bitv .xor .u8 x 255 = 255 - x := by
  obtain ⟨a, rfl⟩ := Int.eq_ofNat_of_zero_le h0
  have h1 : a < 256 := by omega
  revert h1
  have : ∀ a : Nat, a < 256 → bitv .xor .u8 (a : Int) 255 = 255 - (a : Int) := by decide
  exact this a
theorem parseS_window {v : Int} {src dst : IPV} {bs : List Int} (h : 0 < (parseS v src dst bs).data.length) : (parseS v src dst bs).data.length + 8 = bs.length := by
  unfold parseS at h ⊢
  split
  · rename_i h1; rw [if_pos h1] at h; simp [noneP] at h
  · rename_i h1
    rw [if_neg h1] at h
    split
    · rename_i h2; rw [if_pos h2] at h; simp [noneP] at h
    · rename_i h2
      rw [if_neg h2] at h
      split
      · rename_i h3; rw [if_pos h3] at h; simp [noneP] at h
      · rename_i h3
        rw [if_neg h3] at h
        split
        · rename_i h4; rw [if_pos h4] at h; simp [noneP] at h
        · rename_i h4
          rw [if_neg h4] at h
          split
          · rename_i h5; rw [if_pos h5] at h; simp [noneP] at h
          · simp only [List.length_drop]; omega
end Go.Eng
namespace Go.Proofs.YtjngdcilnipjcaaDoor
open Go.Eng Go.RowKit

section
variable {w0 w : World} {R : Ending → World → Prop}
set_option maxHeartbeats 2000000 in
/-- The window's bytes are turned and turned back, one by one: each is the byte eight places on. -/
theorem parses_loop {W C1 A' : Option Addr} {wc c1 g3 n base : Nat} {L : List Int} {m : MsgV} (hE : Ext w0 w) (hown : w.ownsRow w0.heap.size 5 1 (.slice W (L.length + 5) wc) (L.length + 5) ((L ++ roomS).map (.int .u8))) (hL : Bts L) (hLl : L.length ≤ 66000)
    (hC : w.ownsRow base 5 1 (.slice C1 (L.length + 5) c1) (L.length + 5) ((L ++ roomS).map (.int .u8))) (hne : ∀ k, (Value.slice W (L.length + 5) wc).ownBlock = some k → k ≠ g3 ∧ (Value.slice C1 (L.length + 5) c1).ownBlock ≠ some k)
    (hb3 : Blk w g3 24 [.int .i64 m.v, .int .i64 m.t, .int .i64 m.c, .int .i64 m.r, .slice A' n n]) (hn : 0 < n → n + 8 = L.length ∧ A' = W.map (·.add 8))
    (hR : ∀ w', Ext w0 w' → R (.returned (.bool true)) w') :
    LoopVC (S := Int) (fun s w27 K8186 => weirlaw8_IcmpParses_L8186 R W (L.length + 5) wc C1 (L.length + 5) c1 g3 s w27 K8186) 0 w := by
  have hlen : (L ++ roomS).length = L.length + 5 := by simp [roomS]
  refine LoopVC.of (fun s w' => ∃ i : Nat, s = (i : Int) ∧ i ≤ n ∧ Mod (fun k => some k = (Value.slice W (L.length + 5) wc).ownBlock) w w' ∧ w'.ownsRow w0.heap.size 5 1 (.slice W (L.length + 5) wc) (L.length + 5) ((L ++ roomS).map (.int .u8))) (fun s _ => ((n : Int) - s).toNat)
    ⟨0, rfl, by omega, Mod.refl _ _, hown⟩ ?_
  rintro _ w27 ⟨i, rfl, hi, hM, hown7⟩
  unfold weirlaw8_IcmpParses_L8186
  have b3 : ∀ {w' : World}, Mod (fun k => some k = (Value.slice W (L.length + 5) wc).ownBlock) w w' → Blk w' g3 24 [.int .i64 m.v, .int .i64 m.t, .int .i64 m.c, .int .i64 m.r, .slice A' n n] := fun h => hb3.mod h fun e => (hne _ e.symm).1 rfl
  have cC : ∀ {w' : World}, Mod (fun k => some k = (Value.slice W (L.length + 5) wc).ownBlock) w w' → Cells w' C1 ((L ++ roomS).map (.int .u8)) := fun h => own_cells (own_mod hC h fun k hk e => (hne k e.symm).2 hk)
  refine ⟨_, _, _, (b3 hM).cell 4, Br.dec (fun hlt => ?_) (fun hge => ?_)⟩
  · obtain ⟨hn8, hA'⟩ := hn (by omega)
    subst hA'
    have hx := hL.at (i := 8 + i) (by omega)
    have hxg : (L ++ roomS).getD (8 + i) 0 = L[8 + i]'(by omega) := by rw [List.getD_eq_getElem?_getD, List.getElem?_append_left (by omega)]; simp [show 8 + i < L.length by omega]
    have hwr : IntKind.i64.wrap (8 + (i : Int)) = ((8 + i : Nat) : Int) := by rw [w64 (by omega) (by omega)]; omega
    have rdW : ∀ {L' : List Int} {S : World → Prop} {w' : World} {j : Int} {F : Addr → Prop}, L'.length = L.length + 5 → (∀ w', S w' → w'.ownsRow w0.heap.size 5 1 (.slice W (L.length + 5) wc) (L.length + 5) (L'.map (.int .u8))) → S w' → 0 ≤ j → j < ((L.length + 5 : Nat) : Int) → (∀ a, (∀ w', S w' → w'.cell? a = some (.int .u8 (L'.getD j.toNat 0))) → F a) → IdxVC W (L.length + 5) 1 j F :=
      fun hl hS hw h0 h1 hF => IdxVC.draw (S := _) hw (fun w' h => own_cells (hS w' h)) h0 h1 hl hF
    have win : ∀ {L' : List Int} {S : World → Prop} {w' : World} {F : Addr → Prop}, L'.length = L.length + 5 → (∀ w', S w' → w'.ownsRow w0.heap.size 5 1 (.slice W (L.length + 5) wc) (L.length + 5) (L'.map (.int .u8))) → S w' → (∀ a, (∀ w', S w' → w'.cell? a = some (.int .u8 (L'.getD (8 + i) 0))) → F a) → IdxVC (W.map (·.add 8)) n 1 (i : Int) F := fun {L' S w' F} hl hS hw hF => by
      have hc := own_cells (hS w' hw)
      obtain ⟨a, ha, _⟩ := hc.at (i := 8 + i) (by simp [hl]; omega)
      refine ⟨a.add 8, by rw [ha]; rfl, by omega, by omega, hF _ fun w'' hw'' => ?_⟩
      obtain ⟨a', ha', hc'⟩ := (own_cells (hS w'' hw'')).at (i := 8 + i) (by simp [hl]; omega)
      rw [ha] at ha'; cases ha'
      have e : (a.add 8).add ((i : Int).toNat * 1) = a.add (8 + i) := by
        obtain ⟨_, _, hv, _, hor, hf⟩ := own_form (hS w' hw)
        rcases hor with h | ⟨g, hg, _⟩
        · omega
        · injection hv with h1 _ _
          rw [← h1, ha] at hg
          cases hg
          rw [addr_add, addr_add, addr_add]; simp
      rw [e, hc']
      simp [List.getD_eq_getElem?_getD, show 8 + i < L'.length by omega]
    refine DrawVC.of (fun w' => Ext w27 w') fun w28 hE28 hz28 => ⟨hE28, ?_⟩
    refine ⟨_, _, _, fun w' h => ((b3 hM).ext h).cell 4, _, _, _, fun w' h => ((b3 hM).ext h).cell 4, ?_⟩
    refine win (S := fun w' => Ext w27 w') hlen (fun w' h => own_ext hown7 h) hE28 fun a ha => ⟨_, ha, ?_⟩
    rw [hxg, xor_bound hx.1 hx.2]
    have setW : ∀ {L' : List Int} {w' : World} {x : Int} {K : World → Prop}, L'.length = L.length + 5 → w'.ownsRow w0.heap.size 5 1 (.slice W (L.length + 5) wc) (L.length + 5) (L'.map (.int .u8)) →
        (∀ w'', Mod (fun k => some k = (Value.slice W (L.length + 5) wc).ownBlock) w' w'' → w''.ownsRow w0.heap.size 5 1 (.slice W (L.length + 5) wc) (L.length + 5) ((L'.set (8 + i) x).map (.int .u8)) → K w'') →
        IdxVC (W.map (·.add 8)) n 1 (i : Int) fun a => SetVC w' a (.int .u8 x) K := fun {L' w' x K} hl hw hK => by
      refine IdxVC.ownAt (off := 8) hw (by omega) (by rw [Int.toNat_natCast]; omega) (by omega) fun a _ hset => hset _ _ rfl fun w'' _ hm ho => ?_
      rw [Int.toNat_natCast, map_set] at ho
      exact hK w'' hm ho
    refine setW hlen (own_ext hown7 hE28) fun w29 hm29 hown29 => ?_
    have hM29 := (hM.ext hE28).trans hm29
    have hl29 : ((L ++ roomS).set (8 + i) (255 - L[8 + i]'(by omega))).length = L.length + 5 := by simp [roomS]
    have hgs : ((L ++ roomS).set (8 + i) (255 - L[8 + i]'(by omega))).getD (8 + i) 0 = 255 - L[8 + i]'(by omega) := by
      rw [List.getD_eq_getElem?_getD, List.getElem?_set_self (by omega)]; rfl
    refine DrawVC.of (fun w' => Ext w29 w') fun w30 hE30 hz30 => ⟨hE30, ?_⟩
    rw [hwr]
    refine rdW (S := fun w' => Ext w29 w') hl29 (fun w' h => own_ext hown29 h) hE30 (by omega) (by omega) fun a ha => ⟨_, ha, ?_⟩
    refine IdxVC.draw (S := fun w' => Ext w29 w') hE30 (fun w' h => (cC hM29).ext h) (by omega) (by omega) hlen fun a ha => ⟨_, ha, ?_⟩
    rw [Int.toNat_natCast, hxg, xor_bound hx.1 hx.2]
    refine Br.no (fun h => h ?_) ?_
    · exact hgs
    refine DrawVC.of (fun w' => Ext w30 w') fun w31 hE31 hz31 => ⟨hE31, ?_⟩
    have hM30 := hM29.ext hE30
    refine ⟨_, _, _, fun w' h => ((b3 hM30).ext h).cell 4, _, _, _, fun w' h => ((b3 hM30).ext h).cell 4, ?_⟩
    refine win (S := fun w' => Ext w30 w') hl29 (fun w' h => own_ext (own_ext hown29 hE30) h) hE31 fun a ha => ⟨_, ha, ?_⟩
    rw [hgs, xor_bound (by omega) (by omega)]
    refine setW hl29 (own_ext (own_ext hown29 hE30) hE31) fun w32 hm32 hown32 => ?_
    rw [w64 (n := (i : Int) + 1) (by omega) (by omega)]
    refine ⟨⟨i + 1, by omega, by omega, ((hM30.ext hE31).trans hm32), ?_⟩, by omega⟩
    rw [List.set_set] at hown32
    have e : (L ++ roomS).set (8 + i) (255 - (255 - L[8 + i]'(by omega))) = L ++ roomS := by
      have : 255 - (255 - L[8 + i]'(by omega)) = (L ++ roomS)[8 + i]'(by omega) := by rw [List.getElem_append_left (by omega)]; omega
      rw [this, List.set_getElem_self]
    rw [e] at hown32
    exact hown32
  · have hE7 : Ext w0 w27 := hE.trans' hM fun k hk e => by have := own_new hown k e.symm; omega
    refine (same_spec (own_cells hown7) (cC hM) hlen hlen (by omega)).mono ?_
    rintro _ w33 ⟨hE33, rfl⟩
    refine ⟨_, rfl, Br.t (by simp) ?_⟩
    refine awake_spec.mono ?_
    rintro _ w34 ⟨hE34, rfl⟩
    exact ⟨_, rfl, hR _ ((hE7.ext hE33).ext hE34)⟩
set_option maxHeartbeats 1000000 in
theorem parses_tail {W C1 A' TA : Option Addr} {wc c1 g3 g4 tk base : Nat} {L : List Int} {q : ParsedV} (hE : Ext w0 w) (hown : w.ownsRow w0.heap.size 5 1 (.slice W (L.length + 5) wc) (L.length + 5) ((L ++ roomS).map (.int .u8))) (hL : Bts L) (hLl : L.length ≤ 66000)
    (hC : w.ownsRow base 5 1 (.slice C1 (L.length + 5) c1) (L.length + 5) ((L ++ roomS).map (.int .u8))) (hne : ∀ k, (Value.slice W (L.length + 5) wc).ownBlock = some k → k ≠ g3 ∧ (Value.slice C1 (L.length + 5) c1).ownBlock ≠ some k)
    (hb3 : Blk w g3 24 (q.msg A' q.data.length).cells) (hb4 : Blk w g4 24 (q.msg TA tk).cells) (hA : Cells w A' (q.data.map (.int .u8))) (hT : Cells w TA (q.data.map (.int .u8))) (hql : q.data.length ≤ 66000)
    (hn : 0 < q.data.length → q.data.length + 8 = L.length ∧ A' = W.map (·.add 8)) (hR : ∀ w', Ext w0 w' → R (.returned (.bool true)) w') :
    weirlaw8_IcmpParses_D126 R q.err q.err w g3 g4 W (L.length + 5) wc C1 (L.length + 5) c1 := by
  have hlen : (L ++ roomS).length = L.length + 5 := by simp [roomS]
  unfold weirlaw8_IcmpParses_D126
  refine Br.no (fun h => h rfl) ⟨_, _, _, _, _, _, _, CellsAt.blk hb3, _, _, _, _, _, _, _, CellsAt.blk hb4, ?_⟩
  refine (same8_spec (a := q.msg A' q.data.length) (b := q.msg TA tk) hA hT rfl rfl (by show q.data.length ≤ _; omega)).mono ?_
  rintro _ w22 ⟨hE22, rfl⟩
  refine ⟨_, rfl, Br.f (by simp [ParsedV.msg]) ?_⟩
  refine (same_spec (own_cells (own_ext hown hE22)) (own_cells (own_ext hC hE22)) hlen hlen (by omega)).mono ?_
  rintro _ w23 ⟨hE23, rfl⟩
  refine ⟨_, rfl, Br.f (by simp) ?_⟩
  have hE2 := hE22.ext hE23
  refine ⟨A', q.data.length, q.data.length, (hb3.ext hE2).cell 4, ?_⟩
  refine NewVC.blk fun g5 w24 hg5 hz24 hE24 hb5 => ?_
  have hE3 := hE2.ext hE24
  refine AppVC.full' Tryd.underlying22 tyByte rfl (hA.ext hE3) (by simp) (news := [.int .u8 99, .int .u8 99]) (by simpa using Cells.of_blk hb5 0) rfl (by decide) (by intro u hu; simp at hu; subst hu; rfl) (by omega) (by decide) fun A2 c2 w25 _ hE25 => ?_
  have hE4 := hE3.ext hE25
  refine (same_spec (own_cells (own_ext hown hE4)) (own_cells (own_ext hC hE4)) hlen hlen (by omega)).mono ?_
  rintro _ w26 ⟨hE26, rfl⟩
  have hE5 := hE4.ext hE26
  refine ⟨_, rfl, Br.f (by simp) ⟨A', q.data.length, q.data.length, (hb3.ext hE5).cell 4, Br.no (fun h => h ?_) ?_⟩⟩
  · rw [w64 (by omega) (by omega)]; omega
  exact parses_loop (m := q.msg A' q.data.length) (hE.ext hE5) (own_ext hown hE5) hL hLl (own_ext hC hE5) hne (hb3.ext hE5) hn hR

set_option maxHeartbeats 4000000 in
theorem parses_law {v : Int} {src dst : IPV} {A : Option Addr} {n c : Nat} {bs : List Int} (hd : Cells w A (bs.map (.int .u8))) (hl : bs.length = n) (hB : Bts bs) (hk : n ≤ c) (hn : n ≤ 1048576) (hs : Bts src.bytes) (ht : Bts dst.bytes) :
    Calls Tryd.prog 7 #[.int .i64 v, src.val, dst.val, .slice A n c] w fun e w' => e = .returned (.bool true) ∧ Ext w w' := by
  refine weirlaw8_IcmpParses_of v src.v src.a0 src.a1 src.a2 src.a3 src.a4 src.a5 src.a6 src.a7 src.a8 src.a9 src.a10 src.a11 src.a12 src.a13 src.a14 src.a15
    dst.v dst.a0 dst.a1 dst.a2 dst.a3 dst.a4 dst.a5 dst.a6 dst.a7 dst.a8 dst.a9 dst.a10 dst.a11 dst.a12 dst.a13 dst.a14 dst.a15 A n c w _ ?_
  unfold weirlaw8_IcmpParses_VC
  refine NewVC.blk fun g1 w1 hg1 hz1 hE1 hb1 => NewVC.blk fun g2 w2 hg2 hz2 hE2 hb2 => ?_
  refine awake_spec.mono ?_
  rintro _ w3 ⟨hE3, rfl⟩
  refine ⟨_, rfl, Br.f rfl ?_⟩
  have hE03 := (hE1.ext hE2).ext hE3
  have hb1 := (hb1.ext hE2).ext hE3
  have hb2 := hb2.ext hE3
  refine (laid_spec (hd.ext hE03) hl hk (by omega)).mono ?_
  rintro _ w4 ⟨hE4, W, wc, rfl, hownW⟩
  refine ⟨_, _, _, _, _, _, rfl, ?_⟩
  have hLl : (bs.take 66000).length ≤ 66000 := by rw [List.length_take]; omega
  have hLB : Bts (bs.take 66000) := hB.take _
  generalize bs.take 66000 = L at hLl hLB hownW ⊢
  have s3 := hE03.size
  have hownW := own_base hownW s3
  have hwc : L.length + 5 ≤ wc := by
    obtain ⟨A', c', hv, hle, _⟩ := own_form hownW
    injection hv with _ _ hc
    omega
  refine (copied_spec (own_cells hownW) (by simp [roomS]) (by omega)).mono ?_
  rintro _ w5 ⟨hE5, C1, c1, rfl, hownC⟩
  refine ⟨_, _, _, rfl, ?_⟩
  have hE45 := hE4.ext hE5
  have hE05 := hE03.ext hE45
  have hcL : ∀ {w' : World}, Ext w4 w' → Cells w' W (L.map (.int .u8)) := fun h => by
    have := (own_cells (own_ext hownW h)).take L.length
    simpa using this
  refine ⟨_, _, _, _, _, _, _, _, _, _, _, _, _, _, _, _, _, CellsAt.blk (hb1.ext hE45), _, _, _, _, _, _, _, _, _, _, _, _, _, _, _, _, _, CellsAt.blk (hb2.ext hE45), ?_⟩
  refine (parse_spec (v := v) (src := src) (dst := dst) (hcL hE5) rfl hLB (by omega) hs ht).mono ?_
  rintro _ w6 ⟨hE6, A', rfl, hcA, hwin⟩
  have hpw := @parseS_window v src dst L
  have hrs : ∀ {w' : World} {A : Option Addr} {k : Nat}, Cells w' A (L.map (.int .u8)) → Calls Tryd.prog 30 #[.int .i64 v, src.val, dst.val, .slice A L.length k] w' fun e w'' => Ext w' w'' ∧ ∃ A' kk, e = .returned (.tuple #[((parseS v src dst L).msg A' kk).val, .int .i64 (parseS v src dst L).err]) ∧
      w''.ownsRow w'.heap.size 5 1 (.slice A' (parseS v src dst L).data.length kk) (parseS v src dst L).data.length ((parseS v src dst L).data.map (.int .u8)) := fun h => refParse_spec (v := v) (src := src) (dst := dst) h rfl hLB hs ht
  generalize parseS v src dst L = q at hcA hwin hpw hrs ⊢
  refine ⟨_, _, _, _, _, _, _, _, rfl, ?_⟩
  refine NewVC.blk fun g3 w7 hg3 hz7 hE7 hb3 => ?_
  refine set5 hb3 fun w12 hz12 hm12 hb3 => ?_
  have hb3 : Blk w12 g3 24 (q.msg A' q.data.length).cells := hb3
  have hE612 : Ext w6 w12 := hE7.set hm12 (by omega)
  have hE412 := (hE5.ext hE6).ext hE612
  have hE012 := hE03.ext (hE4.ext hE412)
  have hE312 := hE4.ext hE412
  have s4 := hE4.size
  have s5 := hE5.size
  have s6 := hE6.size
  have hWk : ∀ k, (Value.slice W (L.length + 5) wc).ownBlock = some k → k < w4.heap.size := fun k hk => (hownW.lt k hk).2
  have hne : ∀ k, (Value.slice W (L.length + 5) wc).ownBlock = some k → k ≠ g3 ∧ (Value.slice C1 (L.length + 5) c1).ownBlock ≠ some k := fun k hk => ⟨fun e => by have := hWk k hk; omega, fun e => by have := hWk k hk; have := own_new hownC k e; omega⟩
  have tail : ∀ {w' : World} {g4 tk : Nat} {TA : Option Addr}, Ext w12 w' → Blk w' g4 24 (q.msg TA tk).cells → Cells w' TA (q.data.map (.int .u8)) →
      weirlaw8_IcmpParses_D126 (fun e w' => e = .returned (.bool true) ∧ Ext w w') q.err q.err w' g3 g4 W (L.length + 5) wc C1 (L.length + 5) c1 := fun hE' hb4 hT => by
    refine parses_tail (w0 := w) (hE012.ext hE') (own_ext hownW (hE412.ext hE')) hLB hLl (own_ext hownC ((hE6.ext hE612).ext hE')) hne (hb3.ext hE') hb4 ((hcA.ext hE612).ext hE') hT ?_ (fun h => ⟨hpw h, hwin h⟩) fun w'' h => ⟨rfl, h⟩
    by_cases h0 : 0 < q.data.length
    · have := hpw h0; omega
    · omega
  have hE45m : Ext w3 w12 := hE312
  refine DrawVC.of (fun w' => Ext w12 w') fun w13 hE13 _ => ⟨hE13, ?_⟩
  refine ⟨_, _, _, _, _, _, _, _, _, _, _, _, _, _, _, _, _, fun w' h => CellsAt.blk ((hb1.ext hE45m).ext h), _, _, _, _, _, _, _, _, _, _, _, _, _, _, _, _, _, fun w' h => CellsAt.blk ((hb2.ext hE45m).ext h), ?_⟩
  refine ⟨?_, ?_⟩
  · refine (copied_spec (hcL (hE412.ext hE13)) rfl (by omega)).mono ?_
    rintro _ w14 ⟨hE14, C2, c2, rfl, hownC2⟩
    have hE1214 := hE13.ext hE14
    refine ⟨_, _, _, rfl, hE1214, ?_, ?_⟩
    · refine (hrs (own_cells hownC2)).mono ?_
      rintro _ w15 ⟨hE15, TA, tk, rfl, hT⟩
      have hE1215 := hE1214.ext hE15
      refine ⟨_, _, _, _, _, _, _, _, rfl, hE1215, ?_⟩
      refine NewVC.blk fun g4 w16 hg4 hz16 hE16 hb4 => ⟨hE1215.ext hE16, ?_⟩
      have s := hE1215.size
      exact set5 hb4 fun w21 hz21 hm21 hb4 => ⟨(hE1215.ext hE16).set hm21 (by omega), tail ((hE1215.ext hE16).set hm21 (by omega)) hb4 (own_cells (own_ext hT (hE16.set hm21 (by omega))))⟩
    · refine NewVC.blk fun g4 w16 hg4 hz16 hE16 hb4 => ⟨hE1214.ext hE16, ?_⟩
      refine (hrs (own_cells (own_ext hownC2 hE16))).mono ?_
      rintro _ w15 ⟨hE15, TA, tk, rfl, hT⟩
      have hE1215 := (hE1214.ext hE16).ext hE15
      have s := hE1214.size
      refine ⟨_, _, _, _, _, _, _, _, rfl, hE1215, ?_⟩
      exact set5 (hb4.ext hE15) fun w21 hz21 hm21 hb4 => ⟨hE1215.set hm21 (by omega), tail (hE1215.set hm21 (by omega)) hb4 (own_cells (own_mod hT hm21 fun k hk e => by have := own_new hT k hk; omega))⟩
  · refine NewVC.blk fun g4 w16 hg4 hz16 hE16 hb4 => ⟨hE13.ext hE16, ?_⟩
    refine (copied_spec (hcL ((hE412.ext hE13).ext hE16)) rfl (by omega)).mono ?_
    rintro _ w14 ⟨hE14, C2, c2, rfl, hownC2⟩
    have hE1214 := (hE13.ext hE16).ext hE14
    refine ⟨_, _, _, rfl, hE1214, ?_⟩
    refine (hrs (own_cells hownC2)).mono ?_
    rintro _ w15 ⟨hE15, TA, tk, rfl, hT⟩
    have hE1215 := hE1214.ext hE15
    have s := hE13.size
    have s' := hE14.size
    refine ⟨_, _, _, _, _, _, _, _, rfl, hE1215, ?_⟩
    exact set5 ((hb4.ext hE14).ext hE15) fun w21 hz21 hm21 hb4 => ⟨hE1215.set hm21 (by omega), tail (hE1215.set hm21 (by omega)) hb4 (own_cells (own_mod hT hm21 fun k hk e => by have := own_new hT k hk; omega))⟩
end
end Go.Proofs.YtjngdcilnipjcaaDoor
