/- IcmpComplains4 and IcmpComplains6: what is told about any datagram. -/
import Derived.Test.YtjngdcilnipjcaaGreatDoorBy
import Derived.Test.YtjngdcilnipjcaaGreatDoorBx
namespace Go.Proofs.YtjngdcilnipjcaaGreatDoor
namespace N6
open Go.Eng Go.RowKit
section
variable {w w' : World} {Γ : List Fct} {t : TrbV} {f : Fct}
def IsMsg (v : Int) (r : Option (Int × Int × Int × List Int)) (m : IcmV) (L : List Int) : Prop :=
 match r with
 | none => m = IcmV.z ∧ L = []
 | some (t, c, rs, d) => (m.v = v ∧ m.t = t ∧ m.c = c ∧ m.r = rs) ∧ L = d
theorem IsMsg.same {v : Int} {r : Option (Int × Int × Int × List Int)} {m n : IcmV} {L K : List Int} (h : IsMsg v r m L) (k : IsMsg v r n K) : m.v = n.v ∧ m.t = n.t ∧ m.c = n.c ∧ m.r = n.r ∧ L = K := by
 cases r with
 | none =>
  obtain ⟨rfl, rfl⟩ := h
  obtain ⟨rfl, rfl⟩ := k
  exact ⟨rfl, rfl, rfl, rfl, rfl⟩
 | some r =>
  obtain ⟨⟨a1, a2, a3, a4⟩, rfl⟩ := h
  obtain ⟨⟨b1, b2, b3, b4⟩, rfl⟩ := k
  exact ⟨a1.trans b1.symm, a2.trans b2.symm, a3.trans b3.symm, a4.trans b4.symm, rfl⟩
theorem Comp.r {v : Int} {r : Option (Int × Int × Int × List Int)} {e : Ending} (h : Comp v w r e w') : RComp v w r e w' := by
 cases r with
 | none => exact h
 | some r =>
  obtain ⟨A, he, H⟩ := h
  exact ⟨A, _, he, H⟩
theorem RComp.uni {v : Int} {r : Option (Int × Int × Int × List Int)} {e : Ending} {b : Nat} (h : RComp v w r e w') (H : Sep Γ w) (hb : b ≤ w.heap.size) :
  ∃ (m : IcmV) (L : List Int), e = .returned (.tuple #[m.val, .bool r.isSome]) ∧ IsMsg v r m L ∧ L.length = m.data.n ∧ Sep (winB b m.data.val m.data.n L :: Γ) w' ∧ Ext w w' := by
 cases r with
 | none =>
  obtain ⟨rfl, hE⟩ := h
  refine ⟨IcmV.z, [], rfl, ⟨rfl, rfl⟩, rfl, ?_, hE⟩
  have H1 := ((H.ext hE).nil b 5 1).front
  exact H1.ownWin (i := 0) rfl
 | some r =>
  obtain ⟨ty, cd, rs, d⟩ := r
  obtain ⟨A, k, rfl, HC⟩ := h
  have HC := HC.weaken 1 rfl (f' := winB b (.slice A d.length k) d.length d) (Win.low (HC.win 1 rfl) hb) fun _ h => h
  exact ⟨⟨v, ty, cd, rs, ⟨A, d.length, k⟩⟩, d, rfl, ⟨⟨rfl, rfl, rfl, rfl⟩, rfl⟩, rfl, (H.mades HC).front, HC.restOf 0 rfl⟩
theorem comp6_len {d : Ip6D} {m : IcmV} {L : List Int} (h : IsMsg 6 (comp6S t d) m L) : L.length ≤ 1232 := by
 unfold comp6S at h
 split at h
 ·rw [h.2, List.length_take]; exact Nat.min_le_left _ _
 ·rw [h.2]; exact Nat.zero_le _
theorem comp4_len {d : Ip4D} {m : IcmV} {L : List Int} (h : IsMsg 4 (comp4S t d) m L) : L.length ≤ 1232 := by
 unfold comp4S at h
 split at h
 ·rw [h.2, List.length_take]
  have := Nat.min_le_left 548 (ser4S d).1.length
  omega
 ·rw [h.2]; exact Nat.zero_le _
theorem sameM_spec {v : Int} {r : Option (Int × Int × Int × List Int)} {m n : IcmV} {L K : List Int} (hm : IsMsg v r m L) (hn : IsMsg v r n K) (hL : Cells w m.data.A (L.map (.int .u8))) (hK : Cells w n.data.A (K.map (.int .u8))) (lL : L.length = m.data.n) (lK : K.length = n.data.n) (h1 : L.length ≤ 1232) :
  Calls Tryz.prog 20 #[m.val, n.val] w fun e w' => Ext w w' ∧ e = .returned (.bool true) := by
 have hs := hm.same hn
 refine (Go.Proofs.YtjngdcilnipjcaaGreatDoor.same8_spec (a := ⟨m.v, m.t, m.c, m.r, m.data.A, m.data.n, m.data.k⟩) (b := ⟨n.v, n.t, n.c, n.r, n.data.A, n.data.n, n.data.k⟩) (da := L) (db := K) hL hK lL lK (by show m.data.n ≤ _; omega)).mono ?_
 rintro _ w' ⟨hE, rfl⟩
 exact ⟨hE, by rw [decide_eq_true hs]⟩
end
end N6
end Go.Proofs.YtjngdcilnipjcaaGreatDoor
