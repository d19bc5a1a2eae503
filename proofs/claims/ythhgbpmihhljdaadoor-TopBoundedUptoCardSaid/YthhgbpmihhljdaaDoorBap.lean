/- Chapter 7, writing: padding, kinds of headers, a run of padding (both programs). -/
import Derived.Test.YthhgbpmihhljdaaDoorBan
import Derived.Test.YthhgbpmihhljdaaDoorBai
import Derived.Test.YthhgbpmihhljdaaDoorBao
import Derived.Test.YthhgbpmihhljdaaDoorBah
namespace Go.Proofs.YthhgbpmihhljdaaDoor
namespace N6
open Go.Eng Go.RowKit
theorem tB : TypeIs Tryd.prog 5 (.int .u8 0) 1 1 := .of (by kernel_rfl)
abbrev ownB (b : Nat) (v : Value) (n : Nat) (xs : List Int) : Fct := Fct.own b 5 1 v n (xs.map (.int .u8))
section
variable {w : World} {Γ : List Fct} {b n c m : Nat} {A : Option Addr} {xs ys : List Int}
/-- Bytes are laid behind a row of the call's own. -/
theorem appB (H : Sep Γ w) (i : Nat) (hi : Γ[i]? = some (ownB b (.slice A n c) n xs)) {A' : Option Addr} {c' : Nat} (hs : Cells w A' (ys.map (.int .u8))) (hl : ys.length = m) (hb : n + m ≤ 140737488355328) (hbase : b ≤ w.heap.size)
    {F : Option Addr → Nat → Nat → World → Prop} (h : ∀ A2 c2 w', Sep (Γ.set i (ownB b (.slice A2 (n + m) c2) (n + m) (xs ++ ys))) w' → n + m ≤ c2 → F A2 (n + m) c2 w') :
    AppVC Tryd.prog #[32, 32] 32 (.slice A n c) (.slice A' m c') w F :=
  AppVC.sep H i Tryd.underlying32 tB rfl (by decide) hi hs (by simpa using hl) (ints_one _ _) (by omega) (by decide) hbase fun A2 c2 w' H' hc => h A2 c2 w' (by rw [← List.map_append] at H'; exact H') hc
/-- Zeros are. -/
theorem appZ (H : Sep Γ w) (i : Nat) (hi : Γ[i]? = some (ownB b (.slice A n c) n xs)) {k : Int} (hk : k = m) (hb : n + m ≤ 140737488355328) (hbase : b ≤ w.heap.size)
    {F : Option Addr → Nat → Nat → World → Prop} (h : ∀ A2 c2 w', Sep (Γ.set i (ownB b (.slice A2 (n + m) c2) (n + m) (xs ++ List.replicate m 0))) w' → n + m ≤ c2 → F A2 (n + m) c2 w') :
    AppVC Tryd.prog #[32, 3] 32 (.slice A n c) (.int .i64 k) w F :=
  AppVC.zeros Tryd.underlying32 Tryd.underlying3 tB hk (H.own i hi) hb hbase fun A2 c2 w' ho hm hc hat =>
    h A2 c2 w' (H.mod i hi hm (fun k _ e => e.symm) _ (by
      show w'.ownsRow b _ 1 _ _ _
      rw [List.map_append, List.map_replicate]; exact ho) fun k hk => by
        rcases hat k hk.symm with e | e
        · exact .inl e.symm
        · exact .inr ⟨e, (ho.lt k hk).2⟩) hc
theorem ownB_len {v : Value} (H : Sep Γ w) (i : Nat) (hi : Γ[i]? = some (ownB b v n xs)) : xs.length = n := by
  have := (H.own i hi).1; simpa using this
/-- padding: n bytes of padding behind a row. -/
theorem padding_spec {k : Nat} (ho : w.ownsRow b 5 1 (.slice A n c) n (xs.map (.int .u8))) (hb : b ≤ w.heap.size) (hn : n + k ≤ 100000000000000) :
    Calls Tryd.prog 84 #[.slice A n c, .int .i64 k] w fun e w' => ∃ A2 c2, e = .returned (.slice A2 (n + k) c2) ∧
      Sep [Fct.rest w (fun j => (Value.slice A n c).ownBlock = some j), ownB b (.slice A2 (n + k) c2) (n + k) (xs ++ padS k)] w' := by
  refine ip6_padding_of A n c k w _ ?_
  unfold ip6_padding_VC
  refine LoopVC.of (fun s w' => ∃ (m : Nat) (ys : List Int), s.2 = m ∧ s.1.2.1 + m = n + k ∧ ys ++ padS m = xs ++ padS k ∧ Sep [Fct.rest w (fun j => (Value.slice A n c).ownBlock = some j), ownB b (.slice s.1.1 s.1.2.1 s.1.2.2) s.1.2.1 ys] w') (fun s _ => s.2.toNat)
    ⟨k, xs, rfl, rfl, rfl, Sep.begin ho (fun _ e => e) fun j hj => (ho.lt j hj).2⟩ ?_
  rintro ⟨⟨A1, n1, c1⟩, _⟩ w1 ⟨m, ys, rfl, hnm, he, H⟩
  simp only at hnm H
  show ip6_padding_L12 _ A1 n1 c1 (m : Int) w1 _
  unfold ip6_padding_L12
  have hsz := (H.restOf 0 rfl).size
  refine Br.dec (fun h1 => ?_) fun h1 => Br.dec (fun h2 => ?_) fun h2 => ?_
  · have e0 : (if (257 : Int) < (m : Int) then 257 else (m : Int)) = ((min m 257 : Nat) : Int) := by split <;> omega
    rw [e0]
    have e1 : IntKind.i64.wrap (((min m 257 : Nat) : Int) - 2) = ((min m 257 - 2 : Nat) : Int) := by rw [w64 (by omega) (by omega)]; omega
    have e2 : IntKind.i64.wrap ((m : Int) - ((min m 257 : Nat) : Int)) = ((m - min m 257 : Nat) : Int) := by rw [w64 (by omega) (by omega)]; omega
    rw [e1, e2, wu8 (by omega) (by omega)]
    refine NewVC.sep H fun g1 w2 H => ?_
    have hs2 := (H.restOf 0 rfl).size
    refine appB H 1 rfl (m := 2) (ys := [1, ((min m 257 - 2 : Nat) : Int)]) (by simpa using Cells.of_blk (H.blk 2 rfl) 0) rfl (by omega) (by omega) fun A2 c2 w3 H _ => ?_
    have hs3 := (H.restOf 0 rfl).size
    refine appZ H 1 rfl (m := min m 257 - 2) rfl (by omega) (by omega) fun A3 c3 w4 H _ => ?_
    refine ⟨⟨m - min m 257, (ys ++ [1, ((min m 257 - 2 : Nat) : Int)]) ++ List.replicate (min m 257 - 2) 0, rfl, by show n1 + 2 + (min m 257 - 2) + (m - min m 257) = n + k; omega, ?_, H.take 2⟩, by show (((m - min m 257 : Nat) : Int)).toNat < ((m : Int)).toNat; omega⟩
    rw [← he, padS_step (n := m) (by omega)]
    simp
  · have : m = 1 := by omega
    subst this
    refine NewVC.sep H fun g1 w2 H => ?_
    have hs2 := (H.restOf 0 rfl).size
    refine appB H 1 rfl (m := 1) (ys := [0]) (by simpa using Cells.of_blk (H.blk 2 rfl) 0) rfl (by omega) (by omega) fun A2 c2 w3 H _ => ?_
    rw [padS_one] at he
    rw [← he, ← hnm]
    exact ⟨A2, c2, rfl, H.take 2⟩
  · have : m = 0 := by omega
    subst this
    rw [padS_zero, List.append_nil] at he
    rw [← he, ← hnm]
    exact ⟨A1, c1, rfl, H⟩
/-- What a kind of header is: of no such kind 0, with options 1, with bytes 2, of a fragment 3. -/
def sortS (k : Int) : Int := if k = 0 ∨ k = 60 then 1 else if k = 43 then 2 else if k = 44 then 3 else 0
def knownL : List Value := [.int .i64 0, .int .i64 1, .int .i64 43, .int .i64 2, .int .i64 44, .int .i64 3, .int .i64 60, .int .i64 1]
/-- ip6's table of kinds, as it was laid. -/
def Kn (w : World) : Prop := CellsAt w ⟨0, 0, none⟩ 0 knownL
theorem Kn.ext {w w' : World} (h : Kn w) (hE : Ext w w') : Kn w' := CellsAt.ext hE h
theorem sort_spec {k : Int} (hK : Kn w) : Calls Tryd.prog 54 #[.int .i64 k] w fun e w' => Ext w w' ∧ e = .returned (.int .i64 (sortS k)) := by
  refine ip6_sort_of k w _ ?_
  unfold ip6_sort_VC
  refine ⟨0, 1, 43, 2, 44, 3, 60, 1, hK, ?_⟩
  refine LoopVC.of (fun s w' => ∃ i : Nat, s = (i : Int) ∧ i ≤ 4 ∧ Ext w w' ∧ (0 < i → k ≠ 0) ∧ (1 < i → k ≠ 43) ∧ (2 < i → k ≠ 44) ∧ (3 < i → k ≠ 60)) (fun s _ => (4 - s).toNat) ⟨0, rfl, by decide, Mod.refl _ _, by omega, by omega, by omega, by omega⟩ ?_
  rintro _ w1 ⟨i, rfl, hi, hE, h0, h1, h2, h3⟩
  unfold ip6_sort_L26
  refine Br.dec (fun hlt => ?_) fun hge => ?_
  · have fin : ∀ (a b : Int), PartVC knownL (i : Int) 4 2 [.int .i64 a, .int .i64 b] → (k = a → sortS k = b) → (k ≠ a → (0 < i + 1 → k ≠ 0) ∧ (1 < i + 1 → k ≠ 43) ∧ (2 < i + 1 → k ≠ 44) ∧ (3 < i + 1 → k ≠ 60)) → ip6_sort_L26 (fun e w' => Ext w w' ∧ e = .returned (.int .i64 (sortS k))) k 0 1 43 2 44 3 60 1 (i : Int) w1 (fun s' w' => (∃ i : Nat, s' = (i : Int) ∧ i ≤ 4 ∧ Ext w w' ∧ (0 < i → k ≠ 0) ∧ (1 < i → k ≠ 43) ∧ (2 < i → k ≠ 44) ∧ (3 < i → k ≠ 60)) ∧ (4 - s').toNat < (4 - (i : Int)).toNat) := by
      intro a b hp hy hn
      unfold ip6_sort_L26
      refine Br.yes hlt ⟨a, b, hp, ?_⟩
      refine NewVC.sep (Sep.start0 w1) fun g1 w2 H => ?_
      refine Stores.sep H 1 rfl (by intro v hv; simp at hv; rcases hv with rfl | rfl <;> rfl) (Nat.le_refl 2) (splice_all rfl) fun w3 H => ?_
      refine ⟨_, H.cell 1 rfl 0 rfl, Br.dec (fun e => ⟨_, H.cell 1 rfl 1 rfl, hE.ext (H.restOf 0 rfl), by rw [hy e.symm]⟩) fun e => ?_⟩
      have hk := hn (fun x => e x.symm)
      rw [w64 (by omega) (by omega)]
      exact ⟨⟨i + 1, by omega, by omega, hE.ext (H.restOf 0 rfl), hk⟩, by omega⟩
    have key : ip6_sort_L26 (fun e w' => Ext w w' ∧ e = .returned (.int .i64 (sortS k))) k 0 1 43 2 44 3 60 1 (i : Int) w1 (fun s' w' => (∃ i : Nat, s' = (i : Int) ∧ i ≤ 4 ∧ Ext w w' ∧ (0 < i → k ≠ 0) ∧ (1 < i → k ≠ 43) ∧ (2 < i → k ≠ 44) ∧ (3 < i → k ≠ 60)) ∧ (4 - s').toNat < (4 - (i : Int)).toNat) := by
      match i, hlt, h0, h1, h2, h3, fin with
      | 0, _, _, _, _, _, fin => exact fin 0 1 ⟨by decide, by decide, rfl⟩ (fun e => by rw [e]; rfl) fun e => ⟨fun _ => e, by omega, by omega, by omega⟩
      | 1, _, h0, _, _, _, fin => exact fin 43 2 ⟨by decide, by decide, rfl⟩ (fun e => by rw [e]; rfl) fun e => ⟨fun _ => h0 (by decide), fun _ => e, by omega, by omega⟩
      | 2, _, h0, h1, _, _, fin => exact fin 44 3 ⟨by decide, by decide, rfl⟩ (fun e => by rw [e]; rfl) fun e => ⟨fun _ => h0 (by decide), fun _ => h1 (by decide), fun _ => e, by omega⟩
      | 3, _, h0, h1, h2, _, fin => exact fin 60 1 ⟨by decide, by decide, rfl⟩ (fun e => by rw [e]; rfl) fun e => ⟨fun _ => h0 (by decide), fun _ => h1 (by decide), fun _ => h2 (by decide), fun _ => e⟩
      | i + 4, h, _, _, _, _, _ => exact absurd h (by omega)
    unfold ip6_sort_L26 at key
    have := key
    cases hd : decide ((i : Int) < 4) with
    | true => rw [hd] at this; exact this
    | false => exact absurd hlt (of_decide_eq_false hd)
  · refine ⟨hE, ?_⟩
    unfold sortS
    rw [if_neg (by omega), if_neg (by omega), if_neg (by omega)]
end
end N6
end Go.Proofs.YthhgbpmihhljdaaDoor
/- Rows that a call makes: bytes, options, extension headers, datagrams, all in memory of its own. -/
namespace Go.Proofs.YthhgbpmihhljdaaDoor
namespace N6
open Go Go.Eng Go.RowKit
abbrev rowB (b : Nat) (s : Sl) (l : List Int) : Fct := ownB b s.val s.n l
abbrev rowO (b : Nat) (s : Sl) (rs : List OptR) : Fct := Fct.own b 106 2 s.val s.n (rs.map fun r => r.v.cells).flatten
abbrev rowE (b : Nat) (s : Sl) (rs : List ExtR) : Fct := Fct.own b 115 3 s.val s.n (rs.map fun r => r.v.cells).flatten
def optFs (b : Nat) (s : Sl) (rs : List OptR) : List Fct := rowO b s rs :: rs.map fun r => rowB b r.v.data r.data
def extF (b : Nat) (r : ExtR) : List Fct := optFs b r.v.opts r.opts ++ [rowB b r.v.data r.data]
def extFs (b : Nat) (s : Sl) (rs : List ExtR) : List Fct := rowE b s rs :: rs.flatMap (extF b)
def BFine (s : Sl) (l : List Int) : Prop := s.n ≤ 4000000 ∧ Bts l
structure OptsFine (s : Sl) (rs : List OptR) : Prop where
  len : rs.length = s.n
  small : s.n ≤ 4000000
  each : ∀ r ∈ rs, BFine r.v.data r.data
structure ExtsFine (s : Sl) (rs : List ExtR) : Prop where
  len : rs.length = s.n
  small : s.n ≤ 4000000
  opts : ∀ r ∈ rs, OptsFine r.v.opts r.opts
  data : ∀ r ∈ rs, BFine r.v.data r.data
section
theorem own_le {w : World} {b e size n : Nat} {s : Sl} {xs : List Value} (h : w.ownsRow b e size s.val n xs) : n ≤ s.k := by
  obtain ⟨A, c, hv, hc, _⟩ := own_form h
  have hv : Value.slice s.A s.n s.k = .slice A n c := hv
  injection hv with _ _ h3
  omega
variable {w : World} {b : Nat} {s : Sl}
theorem bytesAt_of {l : List Int} (h : (rowB b s l).φ w) (hf : BFine s l) : BytesAt w s l :=
  ⟨by have := h.1; simpa using this, own_le h, hf.1, hf.2, own_cells (A := s.A) (c := s.k) h⟩
theorem optsAt_of {rs : List OptR} (h : ∀ f ∈ optFs b s rs, f.φ w) (hf : OptsFine s rs) : OptsAt w s rs := by
  have h0 := h (rowO b s rs) (by simp [optFs])
  refine ⟨hf.len, own_le h0, hf.small, Recs.of_cells (by decide) (fun r hr => ?_) (own_cells (A := s.A) (c := s.k) h0), fun r hr => bytesAt_of (b := b) (h _ ?_) (hf.each r hr)⟩
  · obtain ⟨x, _, rfl⟩ := List.mem_map.1 hr; rfl
  · exact List.mem_cons_of_mem _ (List.mem_map_of_mem (f := fun r => rowB b r.v.data r.data) hr)
theorem extsAt_of {rs : List ExtR} (h : ∀ f ∈ extFs b s rs, f.φ w) (hf : ExtsFine s rs) : ExtsAt w s rs := by
  have h0 := h (rowE b s rs) (by simp [extFs])
  have h1 : ∀ r ∈ rs, ∀ f ∈ extF b r, f.φ w := fun r hr f hf => h f (List.mem_cons_of_mem _ (List.mem_flatMap.2 ⟨r, hr, hf⟩))
  refine ⟨hf.len, own_le h0, hf.small, Recs.of_cells (by decide) (fun r hr => ?_) (own_cells (A := s.A) (c := s.k) h0), fun r hr => optsAt_of (b := b) (fun f hf => h1 r hr f (List.mem_append_left _ hf)) (hf.opts r hr),
    fun r hr => bytesAt_of (b := b) (h1 r hr _ (by simp [extF])) (hf.data r hr)⟩
  obtain ⟨x, _, rfl⟩ := List.mem_map.1 hr; rfl
theorem optFs_less {b' : Nat} {rs : List OptR} (h : b' ≤ b) : AllLe (optFs b s rs) (optFs b' s rs) :=
  .cons (own_less h).1 (own_less h).2 (AllLe.map rs fun _ _ => own_less h)
theorem extF_less {b' : Nat} {r : ExtR} (h : b' ≤ b) : AllLe (extF b r) (extF b' r) := (optFs_less h).append (.cons (own_less h).1 (own_less h).2 .nil)
theorem extFs_less {b' : Nat} {rs : List ExtR} (h : b' ≤ b) : AllLe (extFs b s rs) (extFs b' s rs) :=
  .cons (own_less h).1 (own_less h).2 (AllLe.flatMap rs fun _ _ => extF_less h)
end
end N6
end Go.Proofs.YthhgbpmihhljdaaDoor
/- Chapter 7, writing: options, both programs. -/
namespace Go.Proofs.YthhgbpmihhljdaaDoor
namespace N6
open Go.Eng Go.RowKit
/-- What a call that makes bytes hands back: the bytes in new memory, and an error. -/
def Made (w : World) (r : List Int × Int) (e : Ending) (w' : World) : Prop :=
  ∃ A c, e = .returned (.tuple #[.slice A r.1.length c, .int .i64 r.2]) ∧ Sep [Fct.rest w None, ownB w.heap.size (.slice A r.1.length c) r.1.length r.1] w'
section
variable {w : World} {Γ : List Fct} {b n c m : Nat} {A : Option Addr} {xs ys : List Int}
theorem Made.err {w' : World} {k : Int} {r : List Int × Int} (h : Ext w w') (hr : r = ([], k)) : Made w r (.returned (.tuple #[.slice none 0 0, .int .i64 k])) w' := by
  subst hr
  exact ⟨none, 0, rfl, ((Sep.start0 w).ext h).nil _ _ _⟩
theorem Made.ok {w' : World} {out : List Int} {A : Option Addr} {c : Nat} {r : List Int × Int} (hr : r = (out, 0)) (H : Sep [Fct.rest w None, ownB w.heap.size (.slice A n c) n out] w') : Made w r (.returned (.tuple #[.slice A n c, .int .i64 0])) w' := by
  subst hr
  have hl := ownB_len H 1 rfl
  subst hl
  exact ⟨A, c, rfl, H⟩
theorem tmod_nat (a k : Nat) : Int.tmod (a : Int) (k : Int) = ((a % k : Nat) : Int) := by
  rw [Int.tmod_eq_emod_of_nonneg (by omega)]; omega
/-- Where an option may not be. -/
theorem optF_bad {ds : List OptD} {i : Nat} {out : List Int} {o : OptD} (h : optF ds i = some out) (ho : ds[i]? = some o) (hb : optBytes (prevZ ds i) o = none) : putOptsS ds = ([], 75) := by
  refine putOptsS_none (i := i + 1) ?_ ?_
  · rw [optF_step h ho, hb]
  · have := (List.getElem?_eq_some_iff.1 ho).1; omega
set_option maxHeartbeats 1000000 in
theorem putOptions_spec {s : Sl} {rs : List OptR} (hO : OptsAt w s rs) : Calls Tryd.prog 74 #[.slice s.A s.n s.k] w (Made w (putOptsS (rs.map OptR.d))) := by
  refine ip6_putOptions_of s.A s.n s.k w _ ?_
  unfold ip6_putOptions_VC
  have hsmall := hO.small
  refine LoopVC.of (fun st w' => ∃ (i : Nat) (out : List Int), st.2 = i ∧ i ≤ s.n ∧ optF (rs.map OptR.d) i = some out ∧ out.length ≤ 2050 * i ∧ Sep [Fct.rest w None, ownB w.heap.size (.slice st.1.1 st.1.2.1 st.1.2.2) st.1.2.1 out] w') (fun st _ => ((s.n : Int) - st.2).toNat)
    ⟨0, [], rfl, Nat.zero_le _, rfl, Nat.zero_le _, (Sep.start0 w).nil _ _ _⟩ ?_
  rintro ⟨⟨A1, n1, c1⟩, _⟩ w1 ⟨i, out, rfl, hi, hf, hlen, H⟩
  simp only at H
  show ip6_putOptions_L58 _ s.A s.n A1 n1 c1 (i : Int) w1 _
  unfold ip6_putOptions_L58
  have hn1 := ownB_len H 1 rfl
  refine Br.dec (fun hlt => ?_) fun hge => ?_
  · have hlt : i < s.n := by omega
    refine (hO.ext (H.restOf 0 rfl)).idx rfl hlt fun a r hr hc hby => ?_
    have hrm : r ∈ rs := List.mem_of_getElem? hr
    have hB := hO.each r hrm
    have hds := hB.small
    have hdl := hB.len
    have hrd : (rs.map OptR.d)[i]? = some r.d := by rw [List.getElem?_map, hr]; rfl
    refine OptV.of r.v ⟨hc, ?_⟩
    refine NewVC.sep H fun g1 w2 H => ?_
    refine Stores.sep H 2 rfl r.v.one (Nat.le_refl 2) (splice_all rfl) fun w3 H => ?_
    have bad : optBytes (prevZ (rs.map OptR.d) i) r.d = none → Made w (putOptsS (rs.map OptR.d)) (.returned (.tuple #[.slice none 0 0, .int .i64 75])) w3 := fun hb => Made.err (H.restOf 0 rfl) (optF_bad hf hrd hb)
    refine JoinVC.of (fun st w' => w3 = w' ∧ st.1 = (A1, n1, c1) ∧ r.v.kind = 0 ∧ r.data ≠ [] ∧ prevZ (rs.map OptR.d) i = false) ?_ ?_
    · refine JoinVC.of (fun st w' => w3 = w' ∧ st = decide (r.v.kind < 0 ∨ 255 < r.v.kind ∨ r.v.kind = 1 ∨ (r.v.kind ≠ 0 ∧ 255 < r.v.data.n))) ?_ ?_
      · refine ⟨_, H.cell 2 rfl 0 rfl, Br.dec (fun h => ⟨rfl, ?_⟩) fun h0 => ⟨_, H.cell 2 rfl 0 rfl, Br.dec (fun h => ⟨rfl, ?_⟩) fun h1 => ⟨_, H.cell 2 rfl 0 rfl, Br.dec (fun h => ⟨rfl, ?_⟩) fun h2 => ⟨_, H.cell 2 rfl 0 rfl, Br.dec (fun h3 => ⟨_, _, _, H.cell 2 rfl 1 rfl, rfl, ?_⟩) fun h3 => ⟨rfl, ?_⟩⟩⟩⟩⟩
        · rw [decide_eq_true (.inl h)]
        · rw [decide_eq_true (.inr (.inl h))]
        · rw [decide_eq_true (.inr (.inr (.inl h)))]
        · by_cases h4 : 255 < r.v.data.n
          · rw [decide_eq_true (by omega), decide_eq_true (.inr (.inr (.inr ⟨h3, h4⟩)))]
          · rw [decide_eq_false (by omega), decide_eq_false (by omega)]
        · rw [decide_eq_false (by omega)]
      rintro _ _ ⟨rfl, rfl⟩
      unfold ip6_putOptions_J14948
      refine Br.dec (fun hbad => bad ?_) fun hok => ⟨_, H.cell 2 rfl 0 rfl, Br.dec (fun hk => ?_) fun hk => ?_⟩
      · unfold optBytes
        by_cases hk : r.v.kind = 0
        · exact absurd hk (by omega)
        · rw [if_neg (show ¬ r.d.kind = 0 from hk), if_pos (by show r.v.kind < 2 ∨ 255 < r.v.kind ∨ 255 < r.data.length; omega)]
      · refine DrawVC.sep H (fun w' => Blk w' g1 106 r.v.cells) fun w4 H => ⟨H.blk 2 rfl, ?_⟩
        refine ⟨_, fun w' h => h.cell 0, _, _, _, fun w' h => h.cell 1, _, _, _, fun w' h => h.cell 1, ?_⟩
        rw [wu8 (n := r.v.kind) (by omega) (by omega), wu8 (n := (r.v.data.n : Int)) (by omega) (by omega)]
        refine NewVC.sep H fun g2 w5 H => ⟨H.blk 2 rfl, ?_⟩
        refine appB H 1 rfl (m := 2) (ys := [r.v.kind, (r.v.data.n : Int)]) (by simpa using Cells.of_blk (H.blk 3 rfl) 0) rfl (by omega) (H.restOf 0 rfl).size fun A2 c2 w6 H _ => ⟨H.blk 2 rfl, ?_⟩
        refine appB H 1 rfl (ys := r.data) (hB.ext (H.restOf 0 rfl)).cells hdl (by omega) (H.restOf 0 rfl).size fun A3 c3 w7 H _ => ⟨H.blk 2 rfl, ?_⟩
        rw [w64 (by omega) (by omega)]
        refine ⟨⟨i + 1, (out ++ [r.v.kind, (r.v.data.n : Int)]) ++ r.data, by show (i : Int) + 1 = _; omega, by omega, ?_, by simp; omega, H.take 2⟩, by show ((s.n : Int) - ((i : Int) + 1)).toNat < ((s.n : Int) - (i : Int)).toNat; omega⟩
        rw [optF_step hf hrd]
        unfold optBytes
        rw [if_neg (show ¬ r.d.kind = 0 from hk), if_neg (by show ¬ (r.v.kind < 2 ∨ 255 < r.v.kind ∨ 255 < r.data.length); omega)]
        simp [hdl, OptR.d]
      · have hk : r.v.kind = 0 := by omega
        refine ⟨_, _, _, H.cell 2 rfl 1 rfl, Br.dec (fun h0 => bad ?_) fun h0 => Br.dec (fun hpos => ?_) fun hpos => ?_⟩
        · unfold optBytes
          rw [if_pos (show r.d.kind = 0 from hk), if_pos (.inl (List.eq_nil_of_length_eq_zero (by show r.data.length = 0; rw [hdl]; omega)))]
        · rw [w64 (by omega) (by omega), show ((i : Int) - 1) = ((i - 1 : Nat) : Int) by omega]
          refine (hO.ext (H.restOf 0 rfl)).idx (i := i - 1) rfl (by omega) fun a1 p hp hpc _ => ?_
          have hpz : prevZ (rs.map OptR.d) i = decide (p.v.kind = 0) := by
            obtain ⟨j, rfl⟩ : ∃ j, i = j + 1 := ⟨i - 1, by omega⟩
            show (match (rs.map OptR.d)[j]? with
              | some o => decide (o.kind = 0)
              | none => false) = _
            rw [List.getElem?_map, show rs[j]? = some p from hp]
            rfl
          refine ⟨p.v.kind, by simpa [add_zero] using hpc.1, Br.dec (fun hz => bad ?_) fun hz => ⟨rfl, rfl, hk, ?_, ?_⟩⟩
          · unfold optBytes
            rw [if_pos (show r.d.kind = 0 from hk), if_pos (.inr (.inl (by rw [hpz, decide_eq_true hz])))]
          · intro e; rw [e] at hdl; simp at hdl; omega
          · rw [hpz, decide_eq_false hz]
        · refine ⟨rfl, rfl, hk, ?_, ?_⟩
          · intro e; rw [e] at hdl; simp at hdl; omega
          · have : i = 0 := by omega
            subst this; rfl
    rintro ⟨st, t1, t2, t3, t4⟩ _ ⟨rfl, e1, hk, hne, hpz⟩
    simp only at e1
    subst e1
    show ip6_putOptions_J3737 _ (i : Int) _ g1 A1 n1 c1 t1 t2 t3 t4 w3
    unfold ip6_putOptions_J3737
    refine ⟨_, _, _, H.cell 2 rfl 1 rfl, ?_⟩
    refine LoopVC.of (fun st w' => w3 = w' ∧ ∃ q : Nat, st = (q : Int) ∧ q ≤ r.v.data.n ∧ ∀ x ∈ r.data.take q, x = 0) (fun st _ => ((r.v.data.n : Int) - st).toNat) ⟨rfl, 0, rfl, Nat.zero_le _, by simp⟩ ?_
    rintro _ _ ⟨rfl, q, rfl, hq, hz⟩
    unfold ip6_putOptions_L59802
    refine Br.dec (fun hlt2 => ?_) fun hge2 => ?_
    · refine (hB.ext (H.restOf 0 rfl)).idx rfl (by omega) fun a2 x hx _ _ hxc => ⟨_, hxc, Br.dec (fun hx0 => bad ?_) fun hx0 => ?_⟩
      · unfold optBytes
        rw [if_pos (show r.d.kind = 0 from hk), if_pos (.inr (.inr fun hall => hx0 (hall x (List.mem_of_getElem? hx))))]
      · rw [w64 (by omega) (by omega)]
        refine ⟨⟨rfl, q + 1, by omega, by omega, ?_⟩, by omega⟩
        intro y hy
        rw [List.take_add_one, hx] at hy
        rcases List.mem_append.1 hy with hy | hy
        · exact hz y hy
        · simp at hy; omega
    · have hall : AllZ r.data := by
        rw [List.take_of_length_le (by omega)] at hz; exact hz
      have hob : optBytes (prevZ (rs.map OptR.d) i) r.d = some (padS r.v.data.n) := by
        unfold optBytes
        rw [if_pos (show r.d.kind = 0 from hk), if_neg (fun h => by
          rcases h with h | h | h
          · exact hne h
          · rw [hpz] at h; cases h
          · exact h hall)]
        show some (padS r.data.length) = _
        rw [hdl]
      have hf1 : optF (rs.map OptR.d) (i + 1) = some (out ++ padS r.v.data.n) := by rw [optF_step hf hrd, hob]
      refine ⟨_, _, _, H.cell 2 rfl 1 rfl, Br.dec (fun hbig => Made.err (H.restOf 0 rfl) (putOptsS_long hf1 (by simp [hO.len]; omega) (by rw [List.length_append, padS_len]; omega))) fun hsm => ⟨_, _, _, H.cell 2 rfl 1 rfl, ?_⟩⟩
      refine (padding_spec (k := r.v.data.n) (H.own 1 rfl) (H.restOf 0 rfl).size (by omega)).mono ?_
      rintro _ w5 ⟨A2, c2, rfl, H5⟩
      have H := H.call 1 rfl (fun k hk => hk) H5
      refine ⟨_, _, _, rfl, ?_⟩
      rw [w64 (by omega) (by omega)]
      refine ⟨⟨i + 1, out ++ padS r.v.data.n, by show (i : Int) + 1 = _; omega, by omega, hf1, by simp [padS_len]; omega, H.take 2⟩, by show ((s.n : Int) - ((i : Int) + 1)).toNat < ((s.n : Int) - (i : Int)).toNat; omega⟩
  · have hin : i = s.n := by omega
    subst hin
    have hl : (rs.map OptR.d).length = s.n := by simp [hO.len]
    have e8 : Int.tmod (n1 : Int) 8 = ((n1 % 8 : Nat) : Int) := tmod_nat n1 8
    rw [e8]
    refine Br.dec (fun h6 => Made.err (H.restOf 0 rfl) ?_) fun h6 => Br.dec (fun hb => Made.err (H.restOf 0 rfl) ?_) fun hb => Made.ok (out := out) ?_ H
    · unfold putOptsS; rw [hl, hf]; simp only; rw [if_pos (.inl (by omega))]
    · unfold putOptsS; rw [hl, hf]; simp only; rw [if_pos (.inr (by omega))]
    · unfold putOptsS; rw [hl, hf]; simp only; rw [if_neg (by omega)]
end
end N6
end Go.Proofs.YthhgbpmihhljdaaDoor
/- Chapter 7, writing: options, the document's. -/
namespace Go.Proofs.YthhgbpmihhljdaaDoor
namespace N6
open Go.Eng Go.RowKit
section
variable {w : World} {Γ : List Fct} {b n c m : Nat} {A : Option Addr} {xs ys : List Int}
end
end N6
end Go.Proofs.YthhgbpmihhljdaaDoor
/- Chapter 7, writing: one header, and headers, both programs. -/
namespace Go.Proofs.YthhgbpmihhljdaaDoor
namespace N6
open Go.Eng Go.RowKit
/-- What a call hands back: bytes to be read (those of w0's memory, or new ones), and an error. -/
def Reads (w0 w : World) (r : List Int × Int) (e : Ending) (w' : World) : Prop :=
  ∃ A n c, e = .returned (.tuple #[.slice A n c, .int .i64 r.2]) ∧ n = r.1.length ∧ Sep [Fct.rest w None, Fct.seen w0 A (r.1.map (.int .u8))] w'
section
variable {w : World} {Γ : List Fct} {b n c m : Nat} {A : Option Addr} {xs ys : List Int}
theorem Reads.old {w0 w' : World} {A : Option Addr} {n c : Nat} {l : List Int} {r : List Int × Int} (h : Ext w w') (hr : r = (l, 0)) (hn : n = l.length) (hc : Cells w0 A (l.map (.int .u8))) : Reads w0 w r (.returned (.tuple #[.slice A n c, .int .i64 0])) w' := by
  subst hr
  exact ⟨A, n, c, rfl, hn, ((Sep.start0 w).ext h).pushSeen hc⟩
theorem Reads.err {w0 w' : World} {k : Int} {r : List Int × Int} (h : Ext w w') (hr : r = ([], k)) : Reads w0 w r (.returned (.tuple #[.slice none 0 0, .int .i64 k])) w' := by
  subst hr
  exact ⟨none, 0, 0, rfl, rfl, ((Sep.start0 w).ext h).pushSeen (Cells.nil _ _)⟩
theorem Made.reads {w0 w1 w' : World} {r : List Int × Int} {e : Ending} (h0 : Ext w0 w1) (hE : Ext w w1) (h : Made w1 r e w') : Reads w0 w r e w' := by
  obtain ⟨A, c, rfl, H⟩ := h
  refine ⟨A, _, c, rfl, rfl, ?_⟩
  have H1 := ((Sep.start0 w).ext hE).made H
  exact H1.ownSeen 1 rfl h0.size
theorem tdiv_nat (a k : Nat) : Int.tdiv (a : Int) (k : Int) = ((a / k : Nat) : Int) := by
  rw [Int.tdiv_eq_ediv_of_nonneg (by omega)]; omega
structure ExtAt (w : World) (r : ExtR) : Prop where
  opts : OptsAt w r.v.opts r.opts
  data : BytesAt w r.v.data r.data
theorem ExtAt.ext {w w' : World} {r : ExtR} (h : ExtAt w r) (hE : Ext w w') : ExtAt w' r := ⟨h.opts.ext hE, h.data.ext hE⟩
theorem opts_nil {r : ExtR} (h : ExtAt w r) : r.d.opts ≠ [] ↔ 0 < r.v.opts.n := by
  have := h.opts.len
  show r.opts.map OptR.d ≠ [] ↔ _
  constructor
  · intro hne; cases hr : r.opts with
    | nil => rw [hr] at hne; exact absurd rfl hne
    | cons a l => rw [hr] at this; simp at this; omega
  · intro h0 e
    have := congrArg List.length e
    simp at this
    rw [this] at *
    simp_all
theorem data_nil {s : Sl} {l : List Int} (h : BytesAt w s l) : l ≠ [] ↔ 0 < s.n := by
  have := h.len
  constructor
  · intro hne; cases l with
    | nil => exact absurd rfl hne
    | cons a l => simp at this; omega
  · rintro h0 rfl; simp at this; omega
set_option maxHeartbeats 1000000 in
theorem body_spec {w0 : World} {r : ExtR} (hE0 : Ext w0 w) (hx0 : ExtAt w0 r) (hK : Kn w) : Calls Tryd.prog 53 #[r.v.val] w (Reads w0 w (bodyS r.d)) := by
  have hx := hx0.ext hE0
  refine ip6_body_of r.v w _ ?_
  unfold ip6_body_VC
  have hk' : r.d.kind = r.v.kind := rfl
  refine NewVC.sep (Sep.start0 w) fun g1 w1 H => ?_
  refine JoinVC.of (fun st w' => Sep [Fct.rest w None, Fct.blk g1 115 r.v.cells] w' ∧ st = decide (¬ (r.v.kind = 0 ∨ r.v.kind = 43 ∨ r.v.kind = 60))) ?_ ?_
  · refine ⟨_, H.cell 1 rfl 0 rfl, Br.dec (fun h => ⟨H, ?_⟩) fun h0 => ⟨_, H.cell 1 rfl 0 rfl, Br.dec (fun h => ⟨H, ?_⟩) fun h1 => ⟨_, H.cell 1 rfl 0 rfl, ?_⟩⟩⟩
    · rw [decide_eq_true (by omega)]
    · rw [decide_eq_true (by omega)]
    refine (sort_spec (hK.ext (H.restOf 0 rfl))).mono ?_
    rintro _ w2 ⟨hE2, rfl⟩
    have H := H.ext hE2
    refine ⟨_, rfl, ?_⟩
    refine Br.dec (fun h2 => ⟨_, H.cell 1 rfl 0 rfl, ?_⟩) fun h2 => ⟨H, ?_⟩
    · refine (sort_spec (hK.ext (H.restOf 0 rfl))).mono ?_
      rintro _ w3 ⟨hE3, rfl⟩
      refine ⟨_, rfl, H.ext hE3, ?_⟩
      unfold sortS at h2 ⊢
      split at h2
      · exact absurd rfl h2
      · rename_i h3
        rw [if_neg h3]
        by_cases h43 : r.v.kind = 43
        · rw [if_pos h43, decide_eq_false (by decide), decide_eq_false (by omega)]
        · rw [if_neg h43, decide_eq_true (by split <;> decide), decide_eq_true (by omega)]
    · unfold sortS at h2
      split at h2
      · rename_i h3; rw [decide_eq_false (by omega)]
      · split at h2
        · exact absurd (by decide) h2
        · split at h2 <;> exact absurd (by decide) h2
  rintro st w4 ⟨H, rfl⟩
  unfold ip6_body_J12
  refine Br.dec (fun hbad => Reads.err (H.restOf 0 rfl) (by unfold bodyS; rw [hk', if_neg (by omega), if_neg (by omega)])) fun hok => ?_
  refine JoinVC.of (fun st w' => Sep [Fct.rest w None, Fct.blk g1 115 r.v.cells] w' ∧ st = decide (r.v.kind ≠ 43 ∧ 0 < r.v.data.n)) ?_ ?_
  · refine ⟨_, H.cell 1 rfl 0 rfl, ?_⟩
    refine (sort_spec (hK.ext (H.restOf 0 rfl))).mono ?_
    rintro _ w5 ⟨hE5, rfl⟩
    have H := H.ext hE5
    refine ⟨_, rfl, Br.dec (fun h => ⟨_, _, _, H.cell 1 rfl 2 rfl, H, ?_⟩) fun h => ⟨H, ?_⟩⟩
    · have : r.v.kind ≠ 43 := fun e => by rw [e] at h; exact absurd h (by decide)
      by_cases h0 : 0 < r.v.data.n
      · rw [decide_eq_true (by omega), decide_eq_true ⟨this, h0⟩]
      · rw [decide_eq_false (by omega), decide_eq_false (fun x => h0 x.2)]
    · rw [decide_eq_false (fun x => h (by unfold sortS; rw [if_pos (by omega)]))]
  rintro st w6 ⟨H, rfl⟩
  unfold ip6_body_J51
  refine Br.dec (fun hbad => Reads.err (H.restOf 0 rfl) ?_) fun hok2 => ⟨_, H.cell 1 rfl 0 rfl, ?_⟩
  · unfold bodyS
    rw [hk', if_neg (by omega), if_pos (by omega), if_pos (show r.d.data ≠ [] from (data_nil hx.data).2 hbad.2)]
  refine (sort_spec (hK.ext (H.restOf 0 rfl))).mono ?_
  rintro _ w7 ⟨hE7, rfl⟩
  have H := H.ext hE7
  refine ⟨_, rfl, Br.dec (fun h => ⟨_, _, _, H.cell 1 rfl 1 rfl, ?_⟩) fun h => ⟨_, _, _, H.cell 1 rfl 1 rfl, ?_⟩⟩
  · have h43 : r.v.kind ≠ 43 := fun e => by rw [e] at h; exact absurd h (by decide)
    refine (putOptions_spec (hx.opts.ext (H.restOf 0 rfl))).mono ?_
    intro e w8 hM
    obtain ⟨A, n, c, rfl, h1, h2⟩ := hM.reads (hE0.ext (H.restOf 0 rfl)) (H.restOf 0 rfl)
    refine ⟨_, _, _, _, rfl, ?_⟩
    have e0 : bodyS r.d = putOptsS (r.opts.map OptR.d) := by
      unfold bodyS
      rw [hk', if_neg h43, if_pos (by omega), if_neg (show ¬ r.d.data ≠ [] from fun hd => hok2 ⟨h43, (data_nil hx.data).1 hd⟩)]; rfl
    rw [e0]
    exact ⟨A, n, c, rfl, h1, h2⟩
  · have h43 : r.v.kind = 43 := by
      rcases (by omega : r.v.kind = 0 ∨ r.v.kind = 43 ∨ r.v.kind = 60) with e | e | e
      · rw [e] at h; exact absurd (by decide) h
      · exact e
      · rw [e] at h; exact absurd (by decide) h
    have hd := hx.data
    have hdl : r.d.data.length = r.v.data.n := hd.len
    refine Br.dec (fun h0 => Reads.err (H.restOf 0 rfl) ?_) fun h0 => ⟨_, _, _, H.cell 1 rfl 2 rfl, ?_⟩
    · unfold bodyS; rw [hk', if_pos h43, if_pos (.inl ((opts_nil hx).2 (by omega)))]
    have e8 : Int.tmod (r.v.data.n : Int) 8 = ((r.v.data.n % 8 : Nat) : Int) := tmod_nat _ 8
    rw [e8]
    refine Br.dec (fun h6 => Reads.err (H.restOf 0 rfl) ?_) fun h6 => ⟨_, _, _, H.cell 1 rfl 2 rfl, Br.dec (fun hb => Reads.err (H.restOf 0 rfl) ?_) fun hb => ⟨_, _, _, H.cell 1 rfl 2 rfl, ?_⟩⟩
    · unfold bodyS; rw [hk', if_pos h43, if_pos (.inr (.inl (by rw [hdl]; omega)))]
    · unfold bodyS; rw [hk', if_pos h43, if_pos (.inr (.inr (by rw [hdl]; omega)))]
    · have e0 : bodyS r.d = (r.data, 0) := by
        unfold bodyS
        rw [hk', if_pos h43, if_neg]
        · rfl
        · intro h
          rcases h with h | h | h
          · exact h0 (by have := (opts_nil hx).1 h; omega)
          · rw [hdl] at h; omega
          · rw [hdl] at h; omega
      exact Reads.old (H.restOf 0 rfl) e0 hd.len.symm hx0.data.cells
end
end N6
end Go.Proofs.YthhgbpmihhljdaaDoor
/- Chapter 7, writing: headers one behind the other, both programs. -/
namespace Go.Proofs.YthhgbpmihhljdaaDoor
namespace N6
open Go.Eng Go.RowKit
section
variable {w : World} {Γ : List Fct} {b n c m : Nat} {A : Option Addr} {xs ys : List Int}
theorem thenK_map {rs : List ExtR} {next : Int} {i : Nat} : thenK (rs.map ExtR.d) next i = match rs[i + 1]? with
    | some y => y.v.kind
    | none => next := by
  unfold thenK
  rw [List.getElem?_map]
  cases rs[i + 1]? <;> rfl
theorem hdr_stop {s : Sl} {rs : List ExtR} {next : Int} {top : Bool} {i : Nat} {out : List Int} {r : ExtR} {k : Int} (hX : ExtsAt w s rs) (h8 : s.n ≤ 8) (_hf : hdrF (rs.map ExtR.d) next top i = (out, 0)) (hr : rs[i]? = some r)
    (h : hdrF (rs.map ExtR.d) next top (i + 1) = ([], k)) (hk : k ≠ 0) : headersS (rs.map ExtR.d) next top = ([], k) := by
  have hl : (rs.map ExtR.d).length = s.n := by simp [hX.len]
  have hi := (List.getElem?_eq_some_iff.1 hr).1
  exact hdrF_stopped (by omega) h hk (by rw [hl, ← hX.len]; omega)
set_option maxHeartbeats 1000000 in
theorem headers_spec {s : Sl} {rs : List ExtR} {next : Int} {inner : Bool} (hX : ExtsAt w s rs) (hK : Kn w) :
    Calls Tryd.prog 44 #[.slice s.A s.n s.k, .int .i64 next, .bool inner] w (Made w (headersS (rs.map ExtR.d) next (!inner))) := by
  refine ip6_headers_of s.A s.n s.k next inner w _ ?_
  unfold ip6_headers_VC
  have hl : (rs.map ExtR.d).length = s.n := by simp [hX.len]
  refine Br.dec (fun h8 => Made.err (Mod.refl _ _) (by unfold headersS; rw [if_pos (by omega)])) fun h8 => ?_
  refine LoopVC.of (fun st w' => ∃ (i : Nat) (out : List Int), st.2 = i ∧ i ≤ s.n ∧ hdrF (rs.map ExtR.d) next (!inner) i = (out, 0) ∧ Sep [Fct.rest w None, ownB w.heap.size (.slice st.1.1 st.1.2.1 st.1.2.2) st.1.2.1 out] w') (fun st _ => ((s.n : Int) - st.2).toNat)
    ⟨0, [], rfl, Nat.zero_le _, rfl, (Sep.start0 w).nil _ _ _⟩ ?_
  rintro ⟨⟨A1, n1, c1⟩, _⟩ w1 ⟨i, out, rfl, hi, hf, H⟩
  simp only at H
  show ip6_headers_L122 _ s.A s.n next inner A1 n1 c1 (i : Int) w1 _
  unfold ip6_headers_L122
  have hn1 := ownB_len H 1 rfl
  have hlen : out.length ≤ 2048 * i := by have := hdrF_len (l := rs.map ExtR.d) (next := next) (top := !inner) i; rw [hf] at this; exact this
  refine Br.dec (fun hlt => ?_) fun hge => ?_
  · have hlt : i < s.n := by omega
    refine (hX.ext (H.restOf 0 rfl)).idx rfl hlt fun a r hr hc _ _ => ?_
    have hrm : r ∈ rs := List.mem_of_getElem? hr
    have hx : ExtAt w r := ⟨hX.opts r hrm, hX.data r hrm⟩
    have hrd : (rs.map ExtR.d)[i]? = some r.d := by rw [List.getElem?_map, hr]; rfl
    have hstep := hdrF_step (l := rs.map ExtR.d) (next := next) (top := !inner) (i := i) (by rw [hf]) hrd
    have hk' : r.d.kind = r.v.kind := rfl
    refine ExtV.of r.v ⟨hc, ?_⟩
    refine NewVC.sep H fun g1 w2 H => ?_
    refine Stores.sep H 2 rfl r.v.one (Nat.le_refl 3) (splice_all rfl) fun w3 H => ?_
    refine JoinVC.of (fun _ w' => w3 = w' ∧ ¬ (r.v.kind = 0 ∧ ¬ ((!inner) = true ∧ i = 0))) ?_ ?_
    · have bad : (r.v.kind = 0 ∧ ¬ ((!inner) = true ∧ i = 0)) → Made w (headersS (rs.map ExtR.d) next (!inner)) (.returned (.tuple #[.slice none 0 0, .int .i64 73])) w3 := fun hb => Made.err (H.restOf 0 rfl) (hdr_stop hX (by omega) hf hr (by rw [hstep, hk', if_pos hb]) (by decide))
      refine ⟨_, H.cell 2 rfl 0 rfl, Br.dec (fun hk => Br.dec (fun h0 => bad ⟨hk, fun x => by omega⟩) fun h0 => ?_) fun hk => ⟨rfl, fun x => hk x.1⟩⟩
      cases hin : inner with
      | true => exact Br.t rfl (by rw [hin] at bad; exact bad ⟨hk, fun x => by cases x.1⟩)
      | false => exact Br.f rfl ⟨rfl, fun x => x.2 ⟨rfl, by omega⟩⟩
    rintro _ _ ⟨rfl, hno⟩
    unfold ip6_headers_J7833
    rw [hk', if_neg hno] at hstep
    refine ExtV.of r.v ⟨H.at 2 rfl, ?_⟩
    refine (body_spec (H.restOf 0 rfl) hx (hK.ext (H.restOf 0 rfl))).mono ?_
    rintro _ w5 ⟨BA, bn, bc, rfl, rfl, H5⟩
    have H := H.made H5
    refine ⟨_, _, _, _, rfl, Br.dec (fun hne => Made.err (H.restOf 0 rfl) (hdr_stop hX (by omega) hf hr (by rw [hstep, if_pos hne]) hne)) fun heq => ?_⟩
    rw [if_neg heq, hf] at hstep
    have hbl := bodyS_len r.d
    refine JoinVC.of (fun st w' => w5 = w' ∧ st = thenK (rs.map ExtR.d) next i) ?_ ?_
    · rw [w64 (by omega) (by omega)]
      refine Br.dec (fun h1 => ?_) fun h1 => ⟨rfl, ?_⟩
      · rw [show ((i : Int) + 1) = ((i + 1 : Nat) : Int) by omega]
        refine (hX.ext (H.restOf 0 rfl)).idx rfl (by omega) fun a1 p hp hpc _ _ => ⟨p.v.kind, by simpa [add_zero] using hpc.1, rfl, ?_⟩
        rw [thenK_map, hp]
      · rw [thenK_map, List.getElem?_eq_none (by rw [hX.len]; omega)]
    rintro _ _ ⟨rfl, rfl⟩
    unfold ip6_headers_J125343
    have e8 : Int.tdiv ((bodyS r.d).1.length : Int) 8 = (((bodyS r.d).1.length / 8 : Nat) : Int) := tdiv_nat _ 8
    rw [e8, u8_eq (thenK _ _ _), w64 (by omega) (by omega), wu8 (by omega) (by omega), w64 (by omega) (by omega)]
    refine NewVC.sep H fun g2 w6 H => ?_
    refine appB H 1 rfl (m := 2) (ys := [thenK (rs.map ExtR.d) next i % 256, (((bodyS r.d).1.length / 8 : Nat) : Int)]) (by simpa using Cells.of_blk (H.blk 4 rfl) 0) rfl (by omega) (H.restOf 0 rfl).size fun A2 c2 w7 H7 _ => ?_
    refine appB H7 1 rfl (ys := (bodyS r.d).1) (H7.seen (H7.restOf 0 rfl) 3 rfl) rfl (by omega) (H7.restOf 0 rfl).size fun A3 c3 w8 H _ => ?_
    refine ⟨⟨i + 1, _, by show (i : Int) + 1 = _; omega, by omega, ?_, H.take 2⟩, by show ((s.n : Int) - ((i : Int) + 1)).toNat < ((s.n : Int) - (i : Int)).toNat; omega⟩
    rw [hstep]
    simp
  · have hin : i = s.n := by omega
    subst hin
    refine Made.ok (out := out) ?_ H
    unfold headersS; rw [hl, if_neg (by omega), hf]
end
end N6
end Go.Proofs.YthhgbpmihhljdaaDoor
