/- Chapter 13 by value: what each piece of version 6 is worth. -/
import Derived.Test.YthhgbpmihhljdaaGreatDoorBbb
import Derived.Test.YthhgbpmihhljdaaGreatDoorBaj
import Derived.Test.YthhgbpmihhljdaaGreatDoorBas
import Derived.Test.YthhgbpmihhljdaaGreatDoorBao
namespace Go.Eng
open Go Go.RowKit
theorem bodyS_kind {x : ExtD} (h : (bodyS x).2 = 0) : x.kind = 43 ∨ x.kind = 0 ∨ x.kind = 60 := by
  unfold bodyS at h
  split at h
  · exact .inl (by assumption)
  · split at h
    · rename_i h1; exact .inr h1
    · cases h
theorem firstR_range {d : Ip6D} (h : (ser6S d).2 = 0) : 0 ≤ firstR d ∧ firstR d ≤ 255 := by
  rcases ser6S_cases d with ⟨h0, _⟩ | ⟨_, h1, h2, _, _, _⟩
  · exact absurd h h0
  · unfold firstR
    split
    · rename_i x l hx
      obtain ⟨_, ho, _⟩ := headersS_ok h2
      have hmem : x ∈ d.exts := List.mem_of_mem_drop (by rw [hx]; simp)
      obtain ⟨j, hj⟩ := List.mem_iff_getElem?.1 hmem
      have := (ho j x (List.getElem?_eq_some_iff.1 hj).1 hj).2
      have := bodyS_kind this
      omega
    · unfold fieldBad at h1; omega
theorem piece6_ok {d : Ip6D} {mtu : Nat} {id : Int} (h : (ser6S d).2 = 0) (hf : d.frag.has = false) (hid : 0 ≤ id ∧ id ≤ 4294967295) (hm : mtu ≤ 65535) (hh : hd6 d + 8 ≤ mtu) {xs : List (Nat × Nat)} (hfit : Fit (hd6 d) (hd6 d) mtu (rest6 d).length 0 xs) {i : Nat} {x : Nat × Nat} (hx : xs[i]? = some x) :
    (ser6S (piece6 d id x)).2 = 0 ∧ (piece6 d id x).data.length = x.2 ∧ (ser6S (piece6 d id x)).1.length = hd6 d + x.2 ∧ hd6 d + x.2 ≤ mtu := by
  obtain ⟨k1, k2, k3, k4, k5, k6, _, _⟩ := hfit.mem hx
  obtain ⟨e1, e2, e3, e4, e5⟩ := split6_len h hf 44
  have hsl := ser6S_len d
  have hfr := firstR_range h
  have hd : hd6 d = 48 + (headersS (d.exts.take (keptS d.exts)) 44 true).1.length := by unfold hd6; omega
  have hlen : (piece6 d id x).data.length = x.2 := by unfold piece6; simp only [List.length_take, List.length_drop]; omega
  have hle : hd6 d + x.2 ≤ mtu := by
    unfold room at k4
    split at k4 <;> omega
  have hb : behindK (piece6 d id x) = 44 := rfl
  have hex : (piece6 d id x).exts = d.exts.take (keptS d.exts) := rfl
  have hfb : (fragB (piece6 d id x)).length = 8 := rfl
  have hbl : (bodyB (piece6 d id x)).length = (headersS (d.exts.take (keptS d.exts)) 44 true).1.length + 8 + x.2 := by
    unfold bodyB
    rw [List.length_append, List.length_append, hb, hex, hfb, hlen]; omega
  have hbad : ¬ fieldBad (piece6 d id x) := by
    unfold fieldBad at e4 ⊢
    have : (piece6 d id x).next = firstR d := rfl
    rw [this]
    intro hq
    apply e4
    rcases hq with hq | hq | hq | hq | hq | hq | hq | hq | hq | hq
    · exact .inl hq
    · exact .inr (.inl hq)
    · exact .inr (.inr (.inl hq))
    · exact .inr (.inr (.inr (.inl hq)))
    · exact .inr (.inr (.inr (.inr (.inl hq))))
    · exact .inr (.inr (.inr (.inr (.inr (.inl hq)))))
    · exact .inr (.inr (.inr (.inr (.inr (.inr (.inl hq))))))
    · exact .inr (.inr (.inr (.inr (.inr (.inr (.inr (.inl hq)))))))
    · omega
    · omega
  have hfe : fragE (piece6 d id x) = 0 := by
    unfold fragE
    have hfg : (piece6 d id x).frag = ⟨true, decide (x.1 + x.2 < (rest6 d).length), id, x.1⟩ := rfl
    rw [hfg, hlen]
    simp only
    rw [if_pos True.intro, if_neg]
    have hft : fitsS ⟨true, decide (x.1 + x.2 < (rest6 d).length), id, x.1⟩ x.2 = true := by
      unfold fitsS
      simp only
      refine decide_eq_true ⟨?_, by omega⟩
      have hi := (List.getElem?_eq_some_iff.1 hx).1
      rintro (⟨h1, h2⟩ | ⟨h1, h2⟩)
      · have h1 := of_decide_eq_true h1
        have := k6 (by
          rcases Nat.lt_or_ge (i + 1) xs.length with hl | hl
          · exact hl
          · have := k5 (by omega); omega)
        omega
      · have := k2 (by omega)
        rcases Nat.lt_or_ge (i + 1) xs.length with hl | hl
        · have := k6 hl; omega
        · have := k5 (by omega); omega
    rw [hft]
    intro hq
    rcases hq with hq | hq | hq | hq | hq | hq
    · omega
    · omega
    · omega
    · omega
    · omega
    · cases hq
  have key : ser6S (piece6 d id x) = (head6 (piece6 d id x) (bodyB (piece6 d id x)).length ++ ((piece6 d id x).src.bytes ++ ((piece6 d id x).dst.bytes ++ bodyB (piece6 d id x))), 0) := by
    unfold ser6S
    rw [if_neg hbad, hb, hex, if_neg (by omega), if_neg (by omega), if_neg (by omega)]
  refine ⟨by rw [key], hlen, ?_, hle⟩
  rw [key]
  have h8 : ∀ n, (head6 (piece6 d id x) n).length = 8 := fun _ => rfl
  have hs : (piece6 d id x).src.bytes.length = 16 := rfl
  have ht : (piece6 d id x).dst.bytes.length = 16 := rfl
  simp only [List.length_append, h8, hs, ht, hbl]
  omega
/-- The pieces: one, the whole, or parts that fit. -/
theorem split6_fit {d : Ip6D} {mtu id : Int} (h : (split6S d mtu id).2 = 0) : (ser6S d).2 = 0 ∧ 1280 ≤ mtu ∧ mtu ≤ 65535 ∧ 0 ≤ id ∧ id ≤ 4294967295 ∧
    ((((ser6S d).1.length : Int) ≤ mtu ∧ split6S d mtu id = ([d], 0)) ∨
     (d.frag.has = false ∧ ¬ ((ser6S d).1.length : Int) ≤ mtu ∧ hd6 d + 8 ≤ mtu.toNat ∧ split6S d mtu id = ((parts (hd6 d) (hd6 d) mtu.toNat (rest6 d).length 0).map (piece6 d id), 0) ∧
      Fit (hd6 d) (hd6 d) mtu.toNat (rest6 d).length 0 (parts (hd6 d) (hd6 d) mtu.toNat (rest6 d).length 0) ∧ parts (hd6 d) (hd6 d) mtu.toNat (rest6 d).length 0 ≠ [])) := by
  unfold split6S at h ⊢
  split at h
  · rename_i h1; exact absurd h h1
  · rename_i h1
    rw [if_neg h1]
    split at h
    · cases h
    · rename_i h2
      rw [if_neg h2]
      split at h
      · cases h
      · rename_i h3
        rw [if_neg h3]
        refine ⟨by omega, by omega, by omega, by omega, by omega, ?_⟩
        split at h
        · rename_i h4
          rw [if_pos h4]
          exact .inl ⟨h4, rfl⟩
        · rename_i h4
          rw [if_neg h4]
          split at h
          · cases h
          · rename_i h5
            rw [if_neg h5]
            split at h
            · cases h
            · rename_i h6
              rw [if_neg h6]
              exact .inr ⟨by simpa using h5, h4, by omega, rfl, parts_fit (by omega) (by omega) _ _ (by omega) (Nat.zero_le _) rfl (fun h => by omega), pieces_ne (by omega) (by omega) _ _ (by omega)⟩
end Go.Eng
/- SplitWhole6 by value: the parts are what Chain reads the rest of. -/
namespace Go.Eng
open Go Go.RowKit
theorem walkS_inside {b : List Int} (hB : Bts b) {k : Int} (hk : 0 ≤ k ∧ k ≤ 255) {inner : Bool} {t : Tail6} (h : walkS b k inner = .ok t) : (∀ x ∈ t.exts, x.inside b) ∧ t.p ≤ b.length ∧ t.exts.length ≤ 8 ∧ 0 ≤ t.next ∧ t.next ≤ 255 := by
  unfold walkS at h
  cases hh : hdrsS b (!inner) k 0 0 with
  | error e => rw [hh] at h; cases h
  | ok r =>
    obtain ⟨l, k', p⟩ := r
    obtain ⟨i1, i2, i3, i4, i5, i6⟩ := hdrsS_inside hB 8 0 k 0 l k' p (by omega) (Nat.zero_le _) hh
    have hl8 : l.length ≤ 8 := by
      rcases i5 with e | rfl
      · omega
      · simp
    rw [hh] at h
    simp only at h
    split at h
    · split at h
      · cases h
      · split at h
        · cases h
        · split at h
          · cases h
          · cases h
            exact ⟨i1, by show p + 8 ≤ b.length; omega, hl8, getD_byte hB p⟩
    · cases h
      exact ⟨i1, i2, hl8, i6 hk⟩
theorem bpart_end {b : List Int} {p : Nat} (_h : p ≤ b.length) : bpart b p (b.length - p) = b.drop p := by
  unfold bpart; exact List.take_of_length_le (by rw [List.length_drop]; omega)
theorem firstR_eq (d : Ip6D) : firstR d = firstE d.next (d.exts.drop (keptS d.exts)) := by
  unfold firstR firstE
  split <;> rename_i e <;> rw [e]
theorem whole6 {d : Ip6D} (h : (ser6S d).2 = 0) (hf : d.frag.has = false) : (rest6 d).length ≤ 65535 ∧ (rest6 d).length ≤ (ser6S d).1.length ∧ chained (firstR d) (rest6 d) = (d.exts.drop (keptS d.exts), d.next, d.data, 0) := by
  obtain ⟨_, k2, k3, k4, k5⟩ := split6_len h hf 0
  have hlen : (ser6S d).1.length ≤ 65535 := by
    rcases ser6S_cases d with ⟨h0, _⟩ | ⟨_, _, _, _, h4, h5⟩
    · exact absurd h h0
    · rw [h5]
      simp only [List.length_append]
      have : ∀ n, (head6 d n).length = 8 := fun _ => rfl
      have : d.src.bytes.length = 16 := rfl
      have : d.dst.bytes.length = 16 := rfl
      simp only [*]
      omega
  have hp : putChainS (d.exts.drop (keptS d.exts)) d.next = ((headersS (d.exts.drop (keptS d.exts)) d.next false).1, 0) := by
    unfold putChainS
    unfold fieldBad at k4
    rw [if_neg (by omega), if_neg (by omega), if_pos k5]
  have hr : rest6 d = (putChainS (d.exts.drop (keptS d.exts)) d.next).1 ++ d.data := by rw [hp]; rfl
  refine ⟨by omega, by omega, ?_⟩
  rw [firstR_eq, hr]
  exact chain_back (by rw [hp]) (by rw [← hr]; omega)
theorem two6 {d : Ip6D} {mtu : Int} (h : (ser6S d).2 = 0) (hf : d.frag.has = false) (hl : ¬ ((ser6S d).1.length : Int) ≤ mtu) (_h1 : 1280 ≤ mtu) (hd : hd6 d + 8 ≤ mtu.toNat) {xs : List (Nat × Nat)} (hx : Fit (hd6 d) (hd6 d) mtu.toNat (rest6 d).length 0 xs) (hn : xs ≠ []) : 2 ≤ xs.length := by
  have hr := (whole6 h hf).2.1
  match xs, hx, hn with
  | [], _, hn => exact absurd rfl hn
  | [x], hx, _ =>
    obtain ⟨e, _, _, _, h5, h6, _, _⟩ := hx
    have := h6 rfl
    unfold room at h5
    rw [if_pos rfl] at h5
    unfold hd6 at h5 hd
    omega
  | _ :: _ :: _, _, _ => simp
end Go.Eng
namespace Go.RowKit
open Go Go.Eng
theorem Recs.cells {w : World} {A : Option Addr} {size : Nat} : ∀ {rs : List (List Value)}, (∀ r ∈ rs, r.length = size) → Recs w A size rs → Cells w A rs.flatten := by
  intro rs hs h i v hv
  have key : ∀ (rs : List (List Value)) (i : Nat), (∀ r ∈ rs, r.length = size) → rs.flatten[i]? = some v → ∃ (j k : Nat) (cs : List Value), i = j * size + k ∧ rs[j]? = some cs ∧ cs[k]? = some v := by
    intro rs
    induction rs with
    | nil => intro i _ h; simp at h
    | cons r l ih =>
      intro i hs h
      have hr : r.length = size := hs r (by simp)
      rw [List.flatten_cons] at h
      rcases Nat.lt_or_ge i r.length with hi | hi
      · rw [List.getElem?_append_left hi] at h
        exact ⟨0, i, r, by omega, rfl, h⟩
      · rw [List.getElem?_append_right hi] at h
        obtain ⟨j, k, cs, e, hj, hk⟩ := ih _ (fun r hr => hs r (List.mem_cons_of_mem _ hr)) h
        exact ⟨j + 1, k, cs, by rw [Nat.succ_mul]; omega, by simpa using hj, hk⟩
  obtain ⟨j, k, cs, rfl, hj, hk⟩ := key rs i hs hv
  obtain ⟨a, ha, hc⟩ := h j cs hj
  refine ⟨a, ha, ?_⟩
  have := cellsAt_get hc k v hk
  rw [Nat.zero_add, add_add] at this
  exact this
end Go.RowKit
/- Contracts of what the cursors reach: a number, a window, a cursor (layer 1's texts, turned to this seat). -/
namespace Go.Eng
open Go Go.RowKit
end Go.Eng
namespace Go.Proofs.YthhgbpmihhljdaaGreatDoor
namespace Nd
open Go.Eng Go.RowKit
theorem sized_spec (n : Int) (w : World) : Calls Tryz.prog 126 #[.int .i64 n] w fun e w' => w = w' ∧ e = .returned (.bool (decide (1 ≤ n ∧ n ≤ 8))) := by
  refine view_sized_of n w _ ?_
  unfold view_sized_VC
  refine Br.dec (fun h => ⟨rfl, ?_⟩) (fun h => ⟨rfl, ?_⟩)
  · simp [h]
  · simp [h]
theorem number_yes {A : Option Addr} {n c : Nat} {p k : Int} {bs : List Int} {w : World} (hb : Cells w A (bs.map (.int .u8))) (hl : bs.length = n) (hB : Bts bs) (hn : n ≤ 140737488355328) (hk : 1 ≤ k ∧ k ≤ 8) (h0 : 0 ≤ p) (h1 : p + k ≤ n) :
    Calls Tryz.prog 128 #[.slice A n c, .int .i64 p, .int .i64 k] w fun e w' => w = w' ∧ e = .returned (.int .u64 (beNum ((bs.drop p.toNat).take k.toNat))) := by
  refine view_number_of A n c p k w _ ?_
  unfold view_number_VC
  refine Br.no (by omega) (Br.no (by omega) ?_)
  refine LoopVC.of (fun s w1 => w = w1 ∧ 0 ≤ s.2 ∧ s.2 ≤ k ∧ s.1 = beNum ((bs.drop p.toNat).take s.2.toNat)) (fun s _ => (k - s.2).toNat) ?_ ?_
  · exact ⟨rfl, by omega, by omega, by simp [beNum]⟩
  · rintro ⟨v, i⟩ w1 ⟨rfl, hi0, hi1, hv⟩
    simp only at hi0 hi1 hv
    show view_number_L122 _ A n c p k v i w _
    unfold view_number_L122
    refine Br.dec (fun h3 => ?_) (fun h3 => ?_)
    · rw [w64 (n := p + i) (by omega) (by omega)]
      refine (look_yes hb hl (by omega) (by omega)).mono ?_
      rintro _ w2 ⟨rfl, rfl⟩
      have hlen : i.toNat < (bs.drop p.toNat).length := by rw [List.length_drop]; omega
      have e1 : IntKind.i64.wrap (i + 1) = i + 1 := w64 (by omega) (by omega)
      have e2 : (i + 1).toNat = i.toNat + 1 := by omega
      have e3 : (p + i).toNat = p.toNat + i.toNat := by omega
      have hx := hB.at (i := (p + i).toNat) (by omega)
      have hg : bs.getD (p + i).toNat 0 = bs[(p + i).toNat]'(by omega) := by simp [show (p + i).toNat < bs.length by omega]
      have hbd := beNum_bound (bs := (bs.drop p.toNat).take i.toNat) ((hB.drop _).take _)
      have hpw : (256 : Int) ^ ((bs.drop p.toNat).take i.toNat).length ≤ 72057594037927936 := pow256_lt (by rw [List.length_take]; omega)
      rw [e1]
      refine ⟨_, rfl, ⟨rfl, by show 0 ≤ i + 1; omega, by show i + 1 ≤ k; omega, ?_⟩, by show (k - (i + 1)).toNat < (k - i).toNat; omega⟩
      simp only [e2]
      rw [take_succ_getD _ _ hlen, beNum_snoc, getD_drop, ← e3, hg]
      rw [← hv] at hbd ⊢
      rw [wu64 (n := v * 256) (by omega) (by omega), wu64 (n := bs[(p + i).toNat]) (by omega) (by omega)]
      unfold bitv
      simp only
      rw [or_low (v * 256) _ 8 (by omega) hx.1 (by omega) (by omega) IntKind.u64.bits (by show _ < (2 : Int) ^ 64; omega)]
      exact wu64 (by omega) (by omega)
    · refine ⟨rfl, ?_⟩
      have : i = k := by omega
      subst this
      rw [hv]
theorem number_no {A : Option Addr} {n c : Nat} {p k : Int} {bs : List Int} {w : World} (hb : Cells w A (bs.map (.int .u8))) (hl : bs.length = n) (hn : n ≤ 140737488355328) (h : ¬ (0 ≤ p ∧ p + k ≤ n)) :
    Calls Tryz.prog 128 #[.slice A n c, .int .i64 p, .int .i64 k] w fun e w' => w = w' ∧ e = .panicked gapc := by
  refine view_number_of A n c p k w _ ?_
  unfold view_number_VC
  refine Br.dec (fun h1 => ⟨rfl, rfl⟩) (fun h1 => Br.dec (fun h2 => ⟨rfl, rfl⟩) (fun h2 => ?_))
  refine LoopVC.of (fun s w1 => w = w1 ∧ 0 ≤ s.2 ∧ p + s.2 ≤ n) (fun s _ => (k - s.2).toNat) ⟨rfl, by omega, by omega⟩ ?_
  rintro ⟨v, i⟩ w1 ⟨rfl, hi0, hi2⟩
  simp only at hi0 hi2
  show view_number_L122 _ A n c p k v i w _
  unfold view_number_L122
  refine Br.yes (by omega) ?_
  rw [w64 (n := p + i) (by omega) (by omega)]
  by_cases h4 : p + i < n
  · refine (look_yes hb hl (by omega) h4).mono ?_
    rintro _ w2 ⟨rfl, rfl⟩
    have e1 : IntKind.i64.wrap (i + 1) = i + 1 := w64 (by omega) (by omega)
    rw [e1]
    exact ⟨_, rfl, ⟨rfl, by show 0 ≤ i + 1; omega, by show p + (i + 1) ≤ n; omega⟩, by show (k - (i + 1)).toNat < (k - i).toNat; omega⟩
  · refine (look_no (by omega)).mono ?_
    rintro _ w2 ⟨rfl, rfl⟩
    exact ⟨rfl, rfl⟩

section
variable {u : TypeId} {pv : Value} {older : List PanicEntry} {w : World} {g1 g2 g3 : Nat} {x1 x2 x3 : Value}
theorem uint_catch (h1 : w.cell? ⟨g1, 0, none⟩ = some x1) (f1 : w.frozen? ⟨g1, 0, none⟩ = false) (h2 : w.cell? ⟨g2, 0, none⟩ = some x2) (f2 : w.frozen? ⟨g2, 0, none⟩ = false) (hne : g1 ≠ g2) :
    CallsD Tryz.prog 127 #[.pointer (some ⟨g1, 0, none⟩), .pointer (some ⟨g2, 0, none⟩)] (.panicking ({ v := .iface u pv, recovered := false } :: older)) w fun e u' w' =>
      e = .returned (.tuple #[]) ∧ u' = .panicking ({ v := .iface u pv, recovered := true } :: older) ∧ w' = (w.setCell ⟨g1, 0, none⟩ (.int .u64 0)).setCell ⟨g2, 0, none⟩ (.int .i64 10) := by
  have hc2 : (w.setCell ⟨g1, 0, none⟩ (.int .u64 0)).cell? ⟨g2, 0, none⟩ = some x2 := by
    rw [World.cell?_setCell_other]
    · exact h2
    · intro e; injection e with e; exact hne e
  refine callsD_of_wpS Tryz.func127 rfl fun c₀ cs hu => ?_
  apply wpS_seq
  apply wpS_region
  simp [wpOpsS, go_sem, recoverD, hu, Tryz.ntmps127, Exit.thenS]
  refine wpS_cond (t := true) (by simp [Act.eval, Array.replicate]) ?_
  simp only [if_true]
  apply wpS_region
  simp [wpOpsS, go_sem, h1, f1, hc2, f2, bodyPostS, results, Tryz.results127]
theorem uint_idle :
    CallsD Tryz.prog 127 #[.pointer (some ⟨g1, 0, none⟩), .pointer (some ⟨g2, 0, none⟩)] .returning w fun e u' w' => e = .returned (.tuple #[]) ∧ u' = .returning ∧ w' = w := by
  refine callsD_of_wpS Tryz.func127 rfl fun c₀ cs hu => ?_
  apply wpS_seq
  apply wpS_region
  simp [wpOpsS, go_sem, recoverD, hu, Tryz.ntmps127, Exit.thenS]
  refine wpS_cond (t := false) (by simp [Act.eval, Array.replicate]) ?_
  simp only [Bool.false_eq_true, if_false]
  refine wpS_of_wp (wp_skip ?_)
  cases c₀
  simp_all [bodyPostS, results, Tryz.results127]
theorem window_catch (h1 : w.cell? ⟨g1, 0, none⟩ = some x1) (f1 : w.frozen? ⟨g1, 0, none⟩ = false) (h2 : w.cell? ⟨g2, 0, none⟩ = some x2) (f2 : w.frozen? ⟨g2, 0, none⟩ = false) (hne : g1 ≠ g2) :
    CallsD Tryz.prog 124 #[.pointer (some ⟨g1, 0, none⟩), .pointer (some ⟨g2, 0, none⟩)] (.panicking ({ v := .iface u pv, recovered := false } :: older)) w fun e u' w' =>
      e = .returned (.tuple #[]) ∧ u' = .panicking ({ v := .iface u pv, recovered := true } :: older) ∧ w' = (w.setCell ⟨g1, 0, none⟩ (.slice none 0 0)).setCell ⟨g2, 0, none⟩ (.int .i64 10) := by
  have hc2 : (w.setCell ⟨g1, 0, none⟩ (.slice none 0 0)).cell? ⟨g2, 0, none⟩ = some x2 := by
    rw [World.cell?_setCell_other]
    · exact h2
    · intro e; injection e with e; exact hne e
  refine callsD_of_wpS Tryz.func124 rfl fun c₀ cs hu => ?_
  apply wpS_seq
  apply wpS_region
  simp [wpOpsS, go_sem, recoverD, hu, Tryz.ntmps124, Exit.thenS]
  refine wpS_cond (t := true) (by simp [Act.eval, Array.replicate]) ?_
  simp only [if_true]
  apply wpS_region
  simp [wpOpsS, go_sem, h1, f1, hc2, f2, bodyPostS, results, Tryz.results124]
theorem window_idle :
    CallsD Tryz.prog 124 #[.pointer (some ⟨g1, 0, none⟩), .pointer (some ⟨g2, 0, none⟩)] .returning w fun e u' w' => e = .returned (.tuple #[]) ∧ u' = .returning ∧ w' = w := by
  refine callsD_of_wpS Tryz.func124 rfl fun c₀ cs hu => ?_
  apply wpS_seq
  apply wpS_region
  simp [wpOpsS, go_sem, recoverD, hu, Tryz.ntmps124, Exit.thenS]
  refine wpS_cond (t := false) (by simp [Act.eval, Array.replicate]) ?_
  simp only [Bool.false_eq_true, if_false]
  refine wpS_of_wp (wp_skip ?_)
  cases c₀
  simp_all [bodyPostS, results, Tryz.results124]
end
theorem leave_ret {f : FuncId} {cap : Array Value} {fin : World → Prop} {R : Ending → World → Prop} {u : FrameMode} {w w1 : World} (hf : callF f = true) (hu : u ≠ .run) {v : Value}
    {u1 : FrameMode} (h : CallsD Tryz.prog f cap u w fun e u' w' => e = .returned v ∧ u' = u1 ∧ w' = w1) (hs : settle u1 = .returning) (hfin : fin w1) :
    leaveWp Tryz.prog callF fin R [{ target := .fn (.func f) cap, args := #[] }] u w := by
  unfold leaveWp
  simp only [hf, cond_true]
  refine ⟨hu, ?_⟩
  have e : (#[] : Array Value) ++ cap = cap := by simp
  rw [e]
  refine h.mono ?_
  rintro e u' w' ⟨rfl, rfl, rfl⟩
  simp only [hs, leaveWp]
  exact hfin

theorem uint_spec {A : Option Addr} {n c : Nat} {p k : Int} {bs : List Int} {w : World} (hb : Cells w A (bs.map (.int .u8))) (hl : bs.length = n) (hB : Bts bs) (hn : n ≤ 140737488355328) :
    Calls Tryz.prog 120 #[.slice A n c, .int .i64 p, .int .i64 k] w fun e w' => Ext w w' ∧ e = .returned (.tuple #[.int .u64 (uintS bs p k).1, .int .i64 (uintS bs p k).2]) := by
  refine view_Uint_of A n c p k w _ ?_
  unfold view_Uint_VC
  refine NewVC.blk fun g1 w1 hg1 hz1 hE1 hb1 => NewVC.blk fun g2 w2 hg2 hz2 hE2 hb2 => ?_
  have hE : Ext w w2 := hE1.ext hE2
  have hb1 := hb1.ext hE2
  have hne : g1 ≠ g2 := by omega
  refine (sized_spec k w2).mono ?_
  rintro _ w3 ⟨rfl, rfl⟩
  refine ⟨_, rfl, ?_⟩
  by_cases hk : 1 ≤ k ∧ k ≤ 8
  · rw [decide_eq_true hk]
    refine Br.f rfl ?_
    by_cases hp : 0 ≤ p ∧ p + k ≤ n
    · refine (number_yes (hb.ext hE) hl hB hn hk hp.1 hp.2).mono ?_
      rintro _ w6 ⟨rfl, rfl⟩
      refine ⟨_, rfl, ?_⟩
      refine SetVC.blk hb1 (by simp) fun w7 hz7 hm7 hb1 => ?_
      have hb2 := hb2.mod hm7 (fun e => hne e.symm)
      refine SetVC.blk hb2 (by simp) fun w8 hz8 hm8 hb2 => ?_
      have hb1 := hb1.mod hm8 hne
      refine leave_ret rfl nofun uint_idle rfl ?_
      refine ⟨_, hb1.cell 0, _, hb2.cell 0, ?_, ?_⟩
      · exact (hE.trans' hm7 (fun i hi e => by omega)).trans' hm8 (fun i hi e => by omega)
      · unfold uintS; rw [if_neg (by omega), if_pos (by omega)]
    · refine (number_no (hb.ext hE) hl hn hp).mono ?_
      rintro _ w6 ⟨rfl, rfl⟩
      refine leave_ret (u := .panicking gapc) rfl (fun h => by cases h) (uint_catch (hb1.cell 0) (hb1.frozen 0) (hb2.cell 0) (hb2.frozen 0) hne) rfl ?_
      have hm7 := Mod.setCell w2 ⟨g1, 0, none⟩ (.int .u64 0)
      have hm8 := Mod.setCell (w2.setCell ⟨g1, 0, none⟩ (.int .u64 0)) ⟨g2, 0, none⟩ (.int .i64 10)
      have hb1 := (hb1.set 0 (.int .u64 0)).mod hm8 hne
      have hb2 := (hb2.mod hm7 (fun e => hne e.symm)).set 0 (.int .i64 10)
      refine ⟨_, hb1.cell 0, _, hb2.cell 0, ?_, ?_⟩
      · exact (hE.trans' hm7 (fun i hi e => by simp at e; omega)).trans' hm8 (fun i hi e => by simp at e; omega)
      · unfold uintS; rw [if_neg (by omega), if_neg (by omega)]
  · rw [decide_eq_false hk]
    refine Br.t rfl ?_
    refine SetVC.blk hb1 (by simp) fun w7 hz7 hm7 hb1 => ?_
    have hb2 := hb2.mod hm7 (fun e => hne e.symm)
    refine SetVC.blk hb2 (by simp) fun w8 hz8 hm8 hb2 => ?_
    have hb1 := hb1.mod hm8 hne
    refine ⟨_, hb1.cell 0, _, hb2.cell 0, ?_, ?_⟩
    · exact (hE.trans' hm7 (fun i hi e => by omega)).trans' hm8 (fun i hi e => by omega)
    · unfold uintS; rw [if_pos (by omega)]

theorem window_yes {A : Option Addr} {n c : Nat} {p k : Int} {bs : List Value} {w : World} (hb : Cells w A bs) (hl : bs.length = n) (hc : n ≤ c) (hn : n ≤ 4611686018427387904) (h0 : 0 ≤ p) (hk : 0 ≤ k) (h1 : p + k ≤ n) :
    Calls Tryz.prog 111 #[.slice A n c, .int .i64 p, .int .i64 k] w fun e w' => Ext w w' ∧ ∃ A', e = .returned (.tuple #[.slice A' k.toNat k.toNat, .int .i64 0]) ∧ Cells w A' ((bs.drop p.toNat).take k.toNat) ∧
      A' = if k = 0 then A else A.map (·.add p.toNat) := by
  refine view_Window_of A n c p k w _ ?_
  unfold view_Window_VC
  refine NewVC.blk fun g1 w1 hg1 hz1 hE1 hb1 => NewVC.blk fun g2 w2 hg2 hz2 hE2 hb2 => ?_
  have hE : Ext w w2 := hE1.ext hE2
  have hb1 := hb1.ext hE2
  have hne : g1 ≠ g2 := by omega
  refine Br.no (by omega) ?_
  refine (part_yes (hb.ext hE) hl hc hn h0 hk h1).mono ?_
  rintro _ w6 ⟨rfl, A', rfl, _, rfl⟩
  refine ⟨_, _, _, rfl, ?_⟩
  refine SetVC.blk hb1 (by simp) fun w7 hz7 hm7 hb1 => ?_
  have hb2 := hb2.mod hm7 (fun e => hne e.symm)
  refine SetVC.blk hb2 (by simp) fun w8 hz8 hm8 hb2 => ?_
  have hb1 := hb1.mod hm8 hne
  refine leave_ret rfl nofun window_idle rfl ?_
  refine ⟨_, _, _, hb1.cell 0, _, hb2.cell 0, ?_, _, rfl, ?_, rfl⟩
  · exact (hE.trans' hm7 (fun i hi e => by omega)).trans' hm8 (fun i hi e => by omega)
  · exact hb.win
theorem window_no {A : Option Addr} {n c : Nat} {p k : Int} {w : World} (hn : n ≤ 140737488355328) (h : ¬ (0 ≤ p ∧ 0 ≤ k ∧ p ≤ n ∧ k ≤ n - p)) :
    Calls Tryz.prog 111 #[.slice A n c, .int .i64 p, .int .i64 k] w fun e w' => Ext w w' ∧ e = .returned (.tuple #[.slice none 0 0, .int .i64 (if k < 0 then 1 else 10)]) := by
  refine view_Window_of A n c p k w _ ?_
  unfold view_Window_VC
  refine NewVC.blk fun g1 w1 hg1 hz1 hE1 hb1 => NewVC.blk fun g2 w2 hg2 hz2 hE2 hb2 => ?_
  have hE : Ext w w2 := hE1.ext hE2
  have hb1 := hb1.ext hE2
  have hne : g1 ≠ g2 := by omega
  refine Br.dec (fun hk => ?_) (fun hk => ?_)
  · refine SetVC.blk hb1 (by simp) fun w7 hz7 hm7 hb1 => ?_
    have hb2 := hb2.mod hm7 (fun e => hne e.symm)
    refine SetVC.blk hb2 (by simp) fun w8 hz8 hm8 hb2 => ?_
    have hb1 := hb1.mod hm8 hne
    refine ⟨_, _, _, hb1.cell 0, _, hb2.cell 0, ?_, ?_⟩
    · exact (hE.trans' hm7 (fun i hi e => by omega)).trans' hm8 (fun i hi e => by omega)
    · rw [if_pos hk]
  · refine (part_no hn (by omega)).mono ?_
    rintro _ w6 ⟨rfl, rfl⟩
    refine leave_ret (u := .panicking gapc) rfl (fun h => by cases h) (window_catch (hb1.cell 0) (hb1.frozen 0) (hb2.cell 0) (hb2.frozen 0) hne) rfl ?_
    have hm7 := Mod.setCell w2 ⟨g1, 0, none⟩ (.slice none 0 0)
    have hm8 := Mod.setCell (w2.setCell ⟨g1, 0, none⟩ (.slice none 0 0)) ⟨g2, 0, none⟩ (.int .i64 10)
    have hb1 := (hb1.set 0 (.slice none 0 0)).mod hm8 hne
    have hb2 := (hb2.mod hm7 (fun e => hne e.symm)).set 0 (.int .i64 10)
    refine ⟨_, _, _, hb1.cell 0, _, hb2.cell 0, ?_, ?_⟩
    · exact (hE.trans' hm7 (fun i hi e => by simp at e; omega)).trans' hm8 (fun i hi e => by simp at e; omega)
    · rw [if_neg hk]
section
variable {w : World} {n c : Nat} {A : Option Addr} {bs : List Int} {p k : Int}
end
section
variable {w : World} {g n c : Nat} {A : Option Addr} {xs : List Int} {p k : Int}
theorem At_spec : Calls Tryz.prog 88 #[.slice A n c] w fun e w' => Ext w w' ∧ e = .returned (.pointer (some ⟨w.heap.size, 0, none⟩)) ∧ Blk w' w.heap.size 180 [.slice A n c, .int .i64 0] := by
  refine view_At_of A n c w _ ?_
  unfold view_At_VC
  refine NewVC.blk fun g1 w1 hg1 hz1 hE1 hb1 => ?_
  subst hg1
  exact ⟨hE1, rfl, hb1⟩
end
end Nd
end Go.Proofs.YthhgbpmihhljdaaGreatDoor
