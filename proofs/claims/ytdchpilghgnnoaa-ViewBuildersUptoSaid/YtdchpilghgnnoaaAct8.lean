/- One call of a builder, and of its twin: Bytes, behind the list. -/
import Derived.Test.YtdchpilghgnnoaaAct7
namespace Go.Proofs.Ytdchpilghgnnoaa
open Go.Eng Go.RowKit

set_option maxHeartbeats 2000000 in
theorem acted_join {w0 w w8 : World} {gb gr c d n g1 m mc wc lb : Nat} {A B PA WA LB : Option Addr} {xs : List Int} {max : Int} {ps : List PartV} {gs : List Nat} {v0 v1 v2 v3 v4 : Value} {K : (Option Addr × Nat × Nat) × Int → World → Prop}
    (T : BP w w0.heap.size gb gr A c B d n xs max) (hE0 : Ext w0 w) (hP : ∀ w', Ext w0 w' → PartsIs w' PA ps) (hm : ps.length = m) (hm2 : m ≤ 1048700) (hgt : gtotal ps ≤ 400000000) (hgb0 : w0.heap.size ≤ gb) (hgr0 : w0.heap.size ≤ gr)
    (hgl : gs.length = 20) (hE : Ext w w8) (hg1 : Blk w8 g1 52 [v0, v1, v2, v3, v4, .slice PA m mc]) (hg1w : w.heap.size ≤ g1)
    (hwa : w8.ownsRow w.heap.size 5 1 (.slice WA (gtotal ps) wc) (gtotal ps) ((ground ps).map (.int .u8))) (hwc : gtotal ps ≤ wc) (hlb : m + 20 ≤ lb)
    (hla : w8.ownsRow w.heap.size 22 1 (.slice LB (m + 20) lb) (m + 20) (((cutsOf WA wc ps m).map fun p => Value.slice p.A p.n p.c) ++ gs.map fun g => .slice (some ⟨g, 0, none⟩) 1 1))
    (hgs : ∀ g ∈ gs, Blk w8 g 5 [.int .u8 207] ∧ w.heap.size ≤ g) :
    weirlaw1_acted_L55162 (Acted w w0.heap.size gb gr A c B d n max) (some ⟨gb, 0, none⟩) (some ⟨gr, 0, none⟩) g1 m WA (gtotal ps) wc m LB (m + 20) lb 20 w8 K := by
  unfold weirlaw1_acted_L55162
  subst hm
  have T8 := T.ext hE
  have hlt := T.lt
  have hE08 := hE0.ext hE
  have hpp := (hP w8 hE08).each
  have hpb : ∀ p ∈ ps, p.bs.length = p.n ∧ Bts p.bs ∧ p.n ≤ 1048700 := fun p hp => (hpp p hp).2
  have hfl := cutsOf_flat WA wc ps
  have hgl2 := ground_len' hpb
  have hgB : Bts (ground ps) := ground_bts hpp
  refine Br.no (by decide) ⟨by omega, by omega, ?_⟩
  rw [Int.toNat_natCast]
  have hPF : ∀ k, PF gb gr A c B d n k → k < w.heap.size := hlt
  refine (bdBytes_spec (m := ps.length) (ps := cutsOf WA wc ps ps.length) T8.b (fun w' hM => cuts_parts hpb (own_cells (own_mod hwa hM fun k hk e => by have := own_new hwa k hk; have := hPF k (.inl e); omega)) hwc
    (own_cells (own_mod hla hM fun k hk e => by have := own_new hla k hk; have := hPF k (.inl e); omega))) (cutsOf_length _ _ _ _) hm2).mono ?_
  rintro _ w12 ⟨rfl, hm12, A', c', hn12, hb12⟩
  rw [hfl.1, hfl.2] at hb12
  rw [hfl.2] at hn12 ⊢
  have hx12 : ∀ k, BF gb A c n k → k < w.heap.size := fun k hk => hPF k (.inl hk)
  refine ⟨_, rfl, _, _, _, (hg1.mod hm12 fun e => by have := hx12 g1 e; omega).cell 5, ?_⟩
  have hE012 : Ext w0 w12 := hE08.trans' hm12 fun k hk e => by
    rcases e with rfl | e
    · omega
    · have := own_new T.b.own k e.symm; omega
  refine (rbJoin_spec (m := ps.length) (T8.rAfter hm12) (fun w' hM => hP w' (hE012.trans' hM fun k hk e => by
    rcases e with rfl | e
    · omega
    · have := own_new T.r.own k e.symm; omega)) rfl hm2).mono ?_
  rintro _ w13 ⟨rfl, hm13, B', d', hn13, hr13⟩
  obtain ⟨hPM, hBP, hsub⟩ := T8.both hm12 hn12 hb12 hm13 hn13 hr13
  have hpf : ∀ k, PF gb gr A c B d n k → k < w.heap.size := hPF
  have hg1' := hg1.mod hPM fun e => by have := hpf g1 e; omega
  have hE013 : Ext w0 w13 := hE012.trans' hm13 fun k hk e => by
    rcases e with rfl | e
    · omega
    · have := own_new T.r.own k e.symm; omega
  refine ⟨_, rfl, _, _, _, hg1'.cell 5, ?_⟩
  refine (cuts_spec (hP w13 hE013) rfl hm2 hgt).mono ?_
  rintro _ w14 ⟨hE14, WA2, wc2, LA2, lc2, rfl, hw2, -, -⟩
  refine ⟨_, _, _, _, _, _, rfl, ?_⟩
  refine (num_spec _ w14).mono ?_
  rintro _ w15 ⟨rfl, rfl⟩
  have hwa14 := own_ext (own_mod hwa hPM fun k hk e => by have := own_new hwa k hk; have := hpf k e; omega) hE14
  have hla14 := own_ext (own_mod hla hPM fun k hk e => by have := own_new hla k hk; have := hpf k e; omega) hE14
  refine ⟨_, rfl, Br.no (by simp) ?_⟩
  refine (same_spec (own_cells hwa14) (own_cells hw2) hgl2 hgl2 hgB hgB).mono ?_
  rintro _ w16 ⟨rfl, rfl⟩
  refine ⟨_, rfl, Br.f (by simp) ?_⟩
  refine acted_marks (by simp [cutsOf_length]) hgl hm2 (own_cells hla14) (fun g hg => ?_) ?_
  · obtain ⟨h1, h2⟩ := hgs g hg
    exact ((h1.mod hPM fun e => by have := hpf g e; omega).ext hE14).cell 0
  refine acted_over hwa14 (by omega) hgl2 fun w' hM => ?_
  have hW : Mod (PF gb gr A c B d n) w w' := (((hE.to _).trans hPM).ext hE14).trans' hM fun k hk e => by have := own_new hwa k e.symm; omega
  refine ⟨rfl, hW, A', c', B', d', _, _, (hBP.ext hE14).mod hM fun k hk e => ?_, fun k hk => ?_⟩
  · have h1 := own_new hwa k e.symm
    have h2 := (hwa.lt k e.symm).2
    rcases hsub k hk with e' | e'
    · have := hpf k e'; omega
    · omega
  · rcases hsub k hk with e' | e'
    · exact .inl e'
    · have := hE.size; exact .inr (by omega)
end Go.Proofs.Ytdchpilghgnnoaa
