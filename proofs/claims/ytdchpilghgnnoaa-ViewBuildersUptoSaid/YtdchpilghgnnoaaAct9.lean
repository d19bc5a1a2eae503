/- One call of a builder, and of its twin. -/
import Derived.Test.YtdchpilghgnnoaaAct8
namespace Go.Proofs.Ytdchpilghgnnoaa
open Go.Eng Go.RowKit

set_option maxHeartbeats 2000000 in
theorem acted_spec {w0 w : World} {gb gr c d n m mc : Nat} {A B PA : Option Addr} {xs : List Int} {max kind obj p k v : Int} {ps : List PartV}
    (T : BP w w0.heap.size gb gr A c B d n xs max) (hE0 : Ext w0 w) (hP : ∀ w', Ext w0 w' → PartsIs w' PA ps) (hm : ps.length = m) (hm2 : m ≤ 1048700) (hgb0 : w0.heap.size ≤ gb) (hgr0 : w0.heap.size ≤ gr) (hv : 0 ≤ v ∧ v < 18446744073709551616) :
    Calls Try.prog 26 #[.pointer (some ⟨gb, 0, none⟩), .pointer (some ⟨gr, 0, none⟩), .agg #[.int .i64 kind, .int .i64 obj, .int .i64 p, .int .i64 k, .int .u64 v, .slice PA m mc]] w (Acted w w0.heap.size gb gr A c B d n max) := by
  refine weirlaw1_acted_of _ _ kind obj p k v PA m mc w _ ?_
  unfold weirlaw1_acted_VC
  refine NewVC.blk fun g1 w1 hg1 hz1 hE1 hb1 => ?_
  have T1 := T.ext hE1
  have hafter : ∀ e w', Acted w1 w0.heap.size gb gr A c B d n max e w' → Acted w w0.heap.size gb gr A c B d n max e w' := fun e w' h => Acted.after hE1 h
  have hlt := T.lt
  refine ⟨_, hb1.cell 0, Br.dec (fun _ => ?_) (fun _ => Br.dec (fun _ => ?_) (fun _ => Br.dec (fun _ => ?_) (fun _ => Br.dec (fun _ => ?_) (fun _ => Br.dec (fun _ => ?_) (fun _ => Acted.same T hE1)))))⟩
  · refine ⟨_, hb1.cell 3, _, hb1.cell 4, ?_⟩
    refine (bdPut_spec T1.b hv).mono ?_
    rintro _ w2 ⟨rfl, hm2', A', c', hn2, hb2⟩
    have hb1' := hb1.mod hm2' fun e => by have := hlt g1 (.inl e); omega
    refine ⟨_, rfl, _, hb1'.cell 3, _, hb1'.cell 4, ?_⟩
    refine (rbPut_spec (T1.rAfter hm2') hv).mono ?_
    rintro _ w3 ⟨rfl, hm3, B', d', hn3, hr3⟩
    obtain ⟨h1, h2, h3⟩ := T1.both hm2' hn2 hb2 hm3 hn3 hr3
    refine ⟨_, rfl, ?_⟩
    refine (num_spec _ w3).mono ?_
    rintro _ w4 ⟨rfl, rfl⟩
    exact ⟨_, rfl, hafter _ _ ⟨by rw [decide_eq_true rfl], h1, A', c', B', d', _, _, h2, h3⟩⟩
  · refine ⟨_, _, _, hb1.cell 5, ?_⟩
    have hP1 := hP w1 (hE0.ext hE1)
    refine (few_spec hP1 hm hm2).mono ?_
    rintro _ w5 ⟨rfl, rfl | ⟨rfl, hfew⟩⟩
    · exact ⟨_, rfl, Br.t rfl (Acted.same T hE1)⟩
    have hgt : gtotal ps ≤ 400000000 := by unfold gtotal; omega
    refine ⟨_, rfl, Br.f rfl ⟨_, _, _, hb1.cell 5, ?_⟩⟩
    refine (cuts_spec hP1 hm hm2 hgt).mono ?_
    rintro _ w6 ⟨hE6, WA, wc, LA, lc, rfl, hw6, hl6, hne6⟩
    have hb6 := hb1.ext hE6
    refine ⟨_, _, _, _, _, _, rfl, _, _, _, hb6.cell 5, ?_⟩
    refine (cuts_spec (hP w6 ((hE0.ext hE1).ext hE6)) hm hm2 hgt).mono ?_
    rintro _ w7 ⟨hE7, WA2, wc2, LA2, lc2, rfl, -, -, -⟩
    refine ⟨_, _, _, _, _, _, rfl, ?_⟩
    have hs1 := hE1.size
    have hwa := own_base (own_ext hw6 hE7) hs1
    have hla := own_base (own_ext hl6 hE7) hs1
    have hwc : gtotal ps ≤ wc := own_form' hw6
    refine acted_list hm2 ((hE1.ext hE6).ext hE7) (hb6.ext hE7) hwa hla (fun j hj => ⟨hne6 j hj, fun e => by have := own_new hl6 j hj.symm; have := hb1.lt; omega⟩) fun LB lb gs w8 K hgl hE8 hb8 hwa8 hlb hla8 hgs => ?_
    exact acted_join T hE0 hP hm hm2 hgt hgb0 hgr0 hgl hE8 hb8 (by omega) hwa8 hwc hlb hla8 hgs
  · refine ⟨_, hb1.cell 2, _, hb1.cell 3, _, hb1.cell 4, ?_⟩
    refine (bdPatch_spec T1.b hv).mono ?_
    rintro _ w2 ⟨rfl, hm2', hb2⟩
    have hb1' := hb1.mod hm2' fun e => by have := hlt g1 (.inl e); omega
    refine ⟨_, rfl, _, hb1'.cell 2, _, hb1'.cell 3, _, hb1'.cell 4, ?_⟩
    refine (rbPatch_spec (T1.rAfter hm2') hv).mono ?_
    rintro _ w3 ⟨rfl, hm3, hr3⟩
    obtain ⟨h1, h2, h3⟩ := T1.both hm2' (Near.refl w1 A c n) hb2 hm3 (Near.refl w2 B d n) hr3
    refine ⟨_, rfl, ?_⟩
    refine (num_spec _ w3).mono ?_
    rintro _ w4 ⟨rfl, rfl⟩
    exact ⟨_, rfl, hafter _ _ ⟨by rw [decide_eq_true rfl], h1, A, c, B, d, _, _, h2, h3⟩⟩
  · refine (bdLen_spec T1.b).mono ?_
    rintro _ w2 ⟨rfl, rfl⟩
    refine ⟨_, rfl, _, rfl, _, _, _, T1.r.cur.cell 1, ?_⟩
    rw [decide_eq_true rfl]
    exact Acted.same T hE1
  · exact acted_done T1 hafter
end Go.Proofs.Ytdchpilghgnnoaa
