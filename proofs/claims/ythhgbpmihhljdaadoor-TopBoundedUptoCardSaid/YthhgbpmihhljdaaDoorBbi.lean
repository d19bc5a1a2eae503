/- How an argument of any nesting is read: down to its cells, with the bound. -/
import Derived.Test.YthhgbpmihhljdaaDoorBbh
import Derived.Test.YthhgbpmihhljdaaDoorBaf
import Derived.Deep.Slices
import Derived.Deep.Fields
import Derived.Test.YthhgbpmihhljdaaDoorBah
import Derived.Test.YthhgbpmihhljdaaDoorBar
import Derived.Test.YthhgbpmihhljdaaDoorRows
import Derived.Lib.LaidTab
import Derived.Test.YthhgbpmihhljdaaDoorBbg
namespace Go.Proofs.YthhgbpmihhljdaaDoor
open Go Go.ChangeShapes Go.WideShapes Go.ChangeAt Go.RowKit Go.Eng

/-- These cells read as a value of type t, of bulk at most b. -/
def Rd (P : Program) (W : World) (b : Nat) (t : TypeId) (cs : List Value) : Prop :=
  ∃ (H : Type) (enc : TypeId × Value → H) (n : Nat) (x : DataW H × List MemPlace), DataW.trod enc P W 0 (fun _ => true) true n t cs = some x ∧ Rows.uptoBulk x.1 ≤ b
section
variable {P : Program} {W : World} {b : Nat} {t e : TypeId} {cs : List Value}
theorem Rd.of {H : Type} {enc : TypeId × Value → H} {v : Value} {d : DataW H} {p : List MemPlace} (h : DataW.Trod enc P W 0 (fun _ => true) true t v d p) (hb : Rows.uptoBulk d ≤ b) : Rd P W b t v.cells.toList := by
  obtain ⟨n, hn⟩ := h
  exact ⟨H, enc, n, _, hn, hb⟩
theorem Rd.int {k : IntKind} (ht : P.underlying t = some (.int k)) (h : Rd P W b t cs) : ∃ n, cs = [.int k n] ∧ (Lit.int k n).wf = true := by
  obtain ⟨H, enc, n, x, hx, _⟩ := h
  obtain ⟨m, rfl, _, hw⟩ := DataW.trod_int ht hx
  exact ⟨m, rfl, hw⟩
theorem Rd.bool (ht : P.underlying t = some .bool) (h : Rd P W b t cs) : ∃ x : Bool, cs = [.bool x] := by
  obtain ⟨H, enc, n, x, hx, _⟩ := h
  obtain ⟨m, rfl, _⟩ := DataW.trod_bool ht hx
  exact ⟨m, rfl⟩
theorem Rd.slice (ht : P.underlying t = some (.slice e)) (h : Rd P W b t cs) :
    ∃ (A : Option Addr) (n c : Nat) (rs : List (List Value)), cs = [.slice A n c] ∧ n ≤ c ∧ c ≤ b ∧ (A = none → c = 0) ∧ rs.length = c ∧ Recs W A (P.cellsOf e) rs ∧ ∀ r ∈ rs, r.length = P.cellsOf e ∧ Rd P W b e r := by
  obtain ⟨H, enc, f, x, hx, hb⟩ := h
  rcases Deep.open_slice ht hx with ⟨rfl, rfl⟩ | ⟨a, len, cap, m, n, D, Pl, rfl, _, hl, _, hm, rfl, hel⟩
  · exact ⟨none, 0, 0, [], rfl, Nat.le_refl _, Nat.zero_le _, fun _ => rfl, rfl, fun i cs h => by simp at h, by simp⟩
  · simp only [if_true] at hm
    subst hm
    have hcap : m ≤ b := by
      have := bulk_slice (H := H) ((List.range len).map D) ((List.range (m - len)).map fun j => D (len + j))
      simp only [List.length_map, List.length_range] at this
      simp only at hb
      omega
    have hsub : ∀ i, i < m → Rows.uptoBulk (D i) ≤ b := by
      intro i hi
      have h1 : D i ∈ (List.range len).map D ∨ D i ∈ (List.range (m - len)).map fun j => D (len + j) := by
        by_cases hil : i < len
        · exact .inl (List.mem_map.2 ⟨i, by simpa using hil, rfl⟩)
        · exact .inr (List.mem_map.2 ⟨i - len, by simp; omega, by rw [show len + (i - len) = i by omega]⟩)
      simp only [Rows.uptoBulk] at hb
      rcases h1 with h1 | h1
      · have := bulk_part h1; omega
      · have := bulk_part h1; omega
    refine ⟨some a, len, m, (List.range m).map fun i => (W.cells? 0 (a.add (i * P.cellsOf e)) (P.cellsOf e)).getD [], rfl, hl, hcap, by simp, by simp, ?_, ?_⟩
    · intro i cs hi
      rw [List.getElem?_map] at hi
      have him : i < m := by
        rcases Nat.lt_or_ge i m with h | h
        · exact h
        · rw [List.getElem?_eq_none (by simpa using h)] at hi; cases hi
      rw [List.getElem?_range him] at hi
      obtain ⟨cs', hc, _⟩ := hel i him
      simp [hc] at hi
      subst hi
      obtain ⟨_, hlen, hat⟩ := World.cells?_some hc
      refine ⟨a, rfl, CellsAt.of _ 0 fun j v hv => ?_⟩
      have hj : j < P.cellsOf e := by rw [← hlen]; exact (List.getElem?_eq_some_iff.1 hv).1
      rw [Nat.zero_add, hat j hj, hv]
    · intro r hr
      obtain ⟨i, hi, rfl⟩ := List.mem_map.1 hr
      have him : i < m := by simpa using hi
      obtain ⟨cs', hc, ht'⟩ := hel i him
      rw [hc]
      exact ⟨(World.cells?_some hc).2.1, H, enc, n, _, ht', hsub i him⟩
theorem Rd.struct {fs : Array Field} (ht : P.underlying t = some (.struct fs)) (h : Rd P W b t cs) :
    cs.length = P.cellsOf t ∧ ∀ (i : Nat) (f : Field), fs[i]? = some f → Rd P W b f.type ((cs.drop f.offset).take (P.cellsOf f.type)) := by
  obtain ⟨H, enc, n, x, hx, hb⟩ := h
  obtain ⟨xs, n', _, rfl, hl, hlen, hf⟩ := DataW.trod_struct ht hx
  refine ⟨hl, fun i f hi => ?_⟩
  have hix : i < xs.length := by rw [hlen]; exact (Array.getElem?_eq_some_iff.1 hi).1
  refine ⟨H, enc, n', xs[i], ?_, ?_⟩
  · rw [hf i f hi, List.getElem?_eq_getElem hix]
  · have h1 := bulk_part (d := xs[i].1) (l := xs.map (·.1)) (List.mem_map.2 ⟨xs[i], List.getElem_mem hix, rfl⟩)
    simp only [Rows.uptoBulk] at hb
    omega
/-- A slice of whole numbers. -/
theorem Rd.ints {k : IntKind} (ht : P.underlying t = some (.slice e)) (he : P.underlying e = some (.int k)) (hc : P.cellsOf e = 1) (h : Rd P W b t cs) :
    ∃ (A : Option Addr) (n c : Nat) (zs : List Int), cs = [.slice A n c] ∧ n ≤ c ∧ c ≤ b ∧ (A = none → c = 0) ∧ zs.length = c ∧ Cells W A (zs.map (.int k)) ∧ ∀ z ∈ zs, (Lit.int k z).wf = true := by
  obtain ⟨A, n, c, rs, rfl, hn, hb, hA, hl, hr, hel⟩ := h.slice ht
  rw [hc] at hr
  have hone : ∀ r ∈ rs, ∃ z, r = [.int k z] ∧ (Lit.int k z).wf = true := fun r hr' => (hel r hr').2.int he
  refine ⟨A, n, c, rs.map fun r => match r with | [.int _ z] => z | _ => 0, rfl, hn, hb, hA, by simpa using hl, ?_, ?_⟩
  · intro i v hv
    rw [List.map_map, List.getElem?_map] at hv
    have hi : i < rs.length := by
      rcases Nat.lt_or_ge i rs.length with h | h
      · exact h
      · rw [List.getElem?_eq_none h] at hv; cases hv
    rw [List.getElem?_eq_getElem hi] at hv
    obtain ⟨z, hz, _⟩ := hone _ (List.getElem_mem hi)
    obtain ⟨a, ha, hcell⟩ := hr i _ (List.getElem?_eq_getElem hi)
    rw [hz] at hcell hv
    simp at hv
    subst hv
    refine ⟨a, ha, ?_⟩
    have := hcell.1
    rwa [add_zero, Nat.mul_one] at this
  · intro z hz
    obtain ⟨r, hr', rfl⟩ := List.mem_map.1 hz
    obtain ⟨z, rfl, hw⟩ := hone r hr'
    exact hw
end
theorem wf_u8 {z : Int} (h : (Lit.int .u8 z).wf = true) : 0 ≤ z ∧ z < 256 := by
  simp [Lit.wf, IntKind.min, IntKind.max, IntKind.signed, IntKind.bits] at h
  omega

set_option maxRecDepth 100000 in
/-- A script of looks, as an argument. -/
theorem Rd.array {P : Program} {W : World} {b n : Nat} {t e : TypeId} {cs : List Value} (ht : P.underlying t = some (.array n e)) (h : Rd P W b t cs) :
    cs.length = P.cellsOf t ∧ ∀ i, i < n → Rd P W b e ((cs.drop (i * P.cellsOf e)).take (P.cellsOf e)) := by
  obtain ⟨H, enc, f, x, hx, hb⟩ := h
  obtain ⟨xs, m, _, rfl, hl, hlen, hf⟩ := DataW.trod_array ht hx
  refine ⟨hl, fun i hi => ?_⟩
  have hix : i < xs.length := by omega
  refine ⟨H, enc, m, xs[i], ?_, ?_⟩
  · rw [hf i hi, List.getElem?_eq_getElem hix]
  · have h1 := bulk_part (d := xs[i].1) (l := xs.map (·.1)) (List.mem_map.2 ⟨xs[i], List.getElem_mem hix, rfl⟩)
    simp only [Rows.uptoBulk] at hb
    omega
end Go.Proofs.YthhgbpmihhljdaaDoor
/- How long the lists of a datagram may be. -/
namespace Go.Eng
open Go Go.RowKit
def Small4 (b : Nat) (h : Ip4V) (os : List OptR) : Prop := h.data.n ≤ b ∧ h.opts.n ≤ b ∧ ∀ r ∈ os, r.v.data.n ≤ b
def SmallE (b : Nat) (r : ExtR) : Prop := r.v.data.n ≤ b ∧ r.v.opts.n ≤ b ∧ ∀ o ∈ r.opts, o.v.data.n ≤ b
def Small6 (b : Nat) (h : Ip6V) (es : List ExtR) : Prop := h.data.n ≤ b ∧ h.exts.n ≤ b ∧ ∀ r ∈ es, SmallE b r
end Go.Eng
/- Options, headers and datagrams as arguments. -/
namespace Go.Eng
theorem exists_map {α β : Type} {f : α → β} {Q : α → Prop} : ∀ (l : List β), (∀ y ∈ l, ∃ x, y = f x ∧ Q x) → ∃ xs : List α, l = xs.map f ∧ ∀ x ∈ xs, Q x
  | [], _ => ⟨[], rfl, fun _ h => by cases h⟩
  | y :: l, h => by
    obtain ⟨x, hx, hq⟩ := h y (by simp)
    obtain ⟨xs, hxs, hqs⟩ := exists_map l fun z hz => h z (by simp [hz])
    exact ⟨x :: xs, by rw [List.map_cons, ← hx, ← hxs], fun z hz => by
      rcases List.mem_cons.1 hz with rfl | hz
      · exact hq
      · exact hqs z hz⟩
theorem cutN {α : Type} {cs xs : List α} {i n : Nat} (h : (cs.drop i).take n = xs) : cs.drop i = xs ++ cs.drop (i + n) := by
  rw [← h, ← List.drop_drop, List.take_append_drop]
end Go.Eng
namespace Go.Proofs.YthhgbpmihhljdaaDoor
open Go Go.ChangeShapes Go.WideShapes Go.ChangeAt Go.RowKit Go.Eng
section
variable {W : World} {b : Nat} {cs : List Value}
theorem rd_bytes (hb : b ≤ 4000000) (h : Rd Tryd.prog W b 32 cs) : ∃ (s : Sl) (l : List Int), cs = [s.val] ∧ BytesAt W s l ∧ s.n ≤ b := by
  obtain ⟨A, n, c, zs, rfl, hn, hcb, -, hl, hc, hwf⟩ := h.ints Tryd.underlying32 Tryd.underlying5 cells_byte
  exact ⟨⟨A, n, c⟩, zs.take n, rfl, ⟨by simp; omega, hn, by show n ≤ 4000000; omega, bts_upto hwf n, Cells.upto hc n⟩, by show n ≤ b; omega⟩
theorem recs_take {A : Option Addr} {size : Nat} {rs : List (List Value)} (h : Recs W A size rs) (n : Nat) : Recs W A size (rs.take n) := fun i cs hi => by
  rw [List.getElem?_take] at hi
  split at hi
  · exact h i cs hi
  · cases hi
set_option maxRecDepth 100000 in
theorem rd_opt (hb : b ≤ 4000000) (h : Rd Tryd.prog W b 106 cs) : ∃ r : OptR, cs = r.v.cells ∧ BytesAt W r.v.data r.data ∧ r.v.data.n ≤ b := by
  have c2 : Tryd.prog.cellsOf 106 = 2 := by kernel_rfl
  have ci : Tryd.prog.cellsOf 3 = 1 := by kernel_rfl
  have cb : Tryd.prog.cellsOf 32 = 1 := by kernel_rfl
  obtain ⟨hl, hf⟩ := h.struct Tryd.underlying106
  have f0 : Rd Tryd.prog W b 3 ((cs.drop 0).take (Tryd.prog.cellsOf 3)) := hf 0 _ rfl
  have f1 : Rd Tryd.prog W b 32 ((cs.drop 1).take (Tryd.prog.cellsOf 32)) := hf 1 _ rfl
  rw [ci] at f0
  rw [cb] at f1
  obtain ⟨k, e0, -⟩ := f0.int Tryd.underlying3
  obtain ⟨s, l, e1, hB⟩ := rd_bytes hb f1
  refine ⟨⟨⟨k, s⟩, l⟩, ?_, hB.1, hB.2⟩
  have h2 : cs.drop 2 = [] := List.drop_of_length_le (by rw [hl, c2]; omega)
  rw [← List.drop_zero (l := cs), cutN e0, cutN e1, h2]
  rfl
theorem rd_opts (hb : b ≤ 4000000) (h : Rd Tryd.prog W b 33 cs) : ∃ (s : Sl) (rs : List OptR), cs = [s.val] ∧ OptsAt W s rs ∧ s.n ≤ b ∧ ∀ r ∈ rs, r.v.data.n ≤ b := by
  have c2 : Tryd.prog.cellsOf 106 = 2 := by kernel_rfl
  obtain ⟨A, n, c, rs, rfl, hn, hcb, -, hl, hr, hel⟩ := h.slice Tryd.underlying33
  rw [c2] at hr
  obtain ⟨xs, hxs, hq⟩ := exists_map (f := fun r : OptR => r.v.cells) (Q := fun r => BytesAt W r.v.data r.data ∧ r.v.data.n ≤ b) (rs.take n) fun y hy => rd_opt hb (hel y (List.mem_of_mem_take hy)).2
  refine ⟨⟨A, n, c⟩, xs, rfl, ⟨?_, hn, by show n ≤ 4000000; omega, ?_, fun r hr => (hq r hr).1⟩, by show n ≤ b; omega, fun r hr => (hq r hr).2⟩
  · have := congrArg List.length hxs; simp at this; show xs.length = n; omega
  · rw [← hxs]; exact recs_take hr n
set_option maxRecDepth 100000 in
theorem rd_ext (hb : b ≤ 4000000) (h : Rd Tryd.prog W b 115 cs) : ∃ r : ExtR, cs = r.v.cells ∧ OptsAt W r.v.opts r.opts ∧ BytesAt W r.v.data r.data ∧ SmallE b r := by
  have c3 : Tryd.prog.cellsOf 115 = 3 := by kernel_rfl
  have ci : Tryd.prog.cellsOf 3 = 1 := by kernel_rfl
  have cb : Tryd.prog.cellsOf 32 = 1 := by kernel_rfl
  have co : Tryd.prog.cellsOf 33 = 1 := by kernel_rfl
  obtain ⟨hl, hf⟩ := h.struct Tryd.underlying115
  have f0 : Rd Tryd.prog W b 3 ((cs.drop 0).take (Tryd.prog.cellsOf 3)) := hf 0 _ rfl
  have f1 : Rd Tryd.prog W b 33 ((cs.drop 1).take (Tryd.prog.cellsOf 33)) := hf 1 _ rfl
  have f2 : Rd Tryd.prog W b 32 ((cs.drop 2).take (Tryd.prog.cellsOf 32)) := hf 2 _ rfl
  rw [ci] at f0
  rw [co] at f1
  rw [cb] at f2
  obtain ⟨k, e0, -⟩ := f0.int Tryd.underlying3
  obtain ⟨so, os, e1, hO⟩ := rd_opts hb f1
  obtain ⟨s, l, e2, hB⟩ := rd_bytes hb f2
  refine ⟨⟨⟨k, so, s⟩, os, l⟩, ?_, hO.1, hB.1, hB.2, hO.2⟩
  have h2 : cs.drop 3 = [] := List.drop_of_length_le (by rw [hl, c3]; omega)
  rw [← List.drop_zero (l := cs), cutN e0, cutN e1, cutN e2, h2]
  rfl
theorem rd_exts (hb : b ≤ 4000000) (h : Rd Tryd.prog W b 39 cs) : ∃ (s : Sl) (rs : List ExtR), cs = [s.val] ∧ ExtsAt W s rs ∧ s.n ≤ b ∧ ∀ r ∈ rs, SmallE b r := by
  have c3 : Tryd.prog.cellsOf 115 = 3 := by kernel_rfl
  obtain ⟨A, n, c, rs, rfl, hn, hcb, -, hl, hr, hel⟩ := h.slice Tryd.underlying39
  rw [c3] at hr
  obtain ⟨xs, hxs, hq⟩ := exists_map (f := fun r : ExtR => r.v.cells) (Q := fun r => OptsAt W r.v.opts r.opts ∧ BytesAt W r.v.data r.data ∧ SmallE b r) (rs.take n) fun y hy => rd_ext hb (hel y (List.mem_of_mem_take hy)).2
  refine ⟨⟨A, n, c⟩, xs, rfl, ⟨?_, hn, by show n ≤ 4000000; omega, ?_, fun r hr => (hq r hr).1, fun r hr => (hq r hr).2.1⟩, by show n ≤ b; omega, fun r hr => (hq r hr).2.2⟩
  · have := congrArg List.length hxs; simp at this; show xs.length = n; omega
  · rw [← hxs]; exact recs_take hr n
set_option maxRecDepth 100000 in
theorem rd_ip (h : Rd Tryd.prog W b 31 cs) : ∃ q : IPV, cs = q.cells ∧ Bts q.bytes := by
  have c17 : Tryd.prog.cellsOf 31 = 17 := by kernel_rfl
  obtain ⟨hl, hf⟩ := h.struct Tryd.underlying31
  have ci : Tryd.prog.cellsOf 3 = 1 := by kernel_rfl
  have cu : Tryd.prog.cellsOf 5 = 1 := by kernel_rfl
  have ca : Tryd.prog.cellsOf 29 = 16 := by kernel_rfl
  have f0 : Rd Tryd.prog W b 3 ((cs.drop 0).take (Tryd.prog.cellsOf 3)) := hf 0 _ rfl
  have f1 : Rd Tryd.prog W b 29 ((cs.drop 1).take (Tryd.prog.cellsOf 29)) := hf 1 _ rfl
  rw [ci] at f0
  rw [ca] at f1
  obtain ⟨-, fa⟩ := f1.array Tryd.underlying29
  rw [cu] at fa
  rw [c17] at hl
  match cs, hl with
  | [x, y0, y1, y2, y3, y4, y5, y6, y7, y8, y9, y10, y11, y12, y13, y14, y15], _ =>
    simp only [List.drop_zero, List.take_succ_cons, List.take_zero, List.drop_succ_cons] at f0 fa
    obtain ⟨k, e, -⟩ := f0.int Tryd.underlying3
    have g : ∀ i (hi : i < 16) (u : Value), [y0, y1, y2, y3, y4, y5, y6, y7, y8, y9, y10, y11, y12, y13, y14, y15][i]? = some u → ∃ z, u = .int .u8 z ∧ 0 ≤ z ∧ z < 256 := fun i hi u hu => by
      have h1 := fa i hi
      rw [Nat.mul_one] at h1
      have h2 : (([y0, y1, y2, y3, y4, y5, y6, y7, y8, y9, y10, y11, y12, y13, y14, y15].drop i).take 1) = [u] := by
        rw [List.take_one, List.head?_drop, hu]; rfl
      rw [h2] at h1
      obtain ⟨z, hz, hw⟩ := h1.int Tryd.underlying5
      exact ⟨z, by simpa using hz, wf_u8 hw⟩
    obtain ⟨z0, rfl, w0⟩ := g 0 (by decide) _ rfl
    obtain ⟨z1, rfl, w1⟩ := g 1 (by decide) _ rfl
    obtain ⟨z2, rfl, w2⟩ := g 2 (by decide) _ rfl
    obtain ⟨z3, rfl, w3⟩ := g 3 (by decide) _ rfl
    obtain ⟨z4, rfl, w4⟩ := g 4 (by decide) _ rfl
    obtain ⟨z5, rfl, w5⟩ := g 5 (by decide) _ rfl
    obtain ⟨z6, rfl, w6⟩ := g 6 (by decide) _ rfl
    obtain ⟨z7, rfl, w7⟩ := g 7 (by decide) _ rfl
    obtain ⟨z8, rfl, w8⟩ := g 8 (by decide) _ rfl
    obtain ⟨z9, rfl, w9⟩ := g 9 (by decide) _ rfl
    obtain ⟨z10, rfl, w10⟩ := g 10 (by decide) _ rfl
    obtain ⟨z11, rfl, w11⟩ := g 11 (by decide) _ rfl
    obtain ⟨z12, rfl, w12⟩ := g 12 (by decide) _ rfl
    obtain ⟨z13, rfl, w13⟩ := g 13 (by decide) _ rfl
    obtain ⟨z14, rfl, w14⟩ := g 14 (by decide) _ rfl
    obtain ⟨z15, rfl, w15⟩ := g 15 (by decide) _ rfl
    simp only [List.cons.injEq, and_true] at e
    subst e
    refine ⟨⟨k, z0, z1, z2, z3, z4, z5, z6, z7, z8, z9, z10, z11, z12, z13, z14, z15⟩, rfl, fun z hz => ?_⟩
    simp only [IPV.bytes, List.mem_cons, List.not_mem_nil, or_false] at hz
    rcases hz with rfl | rfl | rfl | rfl | rfl | rfl | rfl | rfl | rfl | rfl | rfl | rfl | rfl | rfl | rfl | rfl <;> assumption
set_option maxRecDepth 100000 in
theorem rd_ip4 (hb : b ≤ 4000000) (h : Rd Tryd.prog W b 35 cs) : ∃ (h : Ip4V) (os : List OptR) (data : List Int), cs = h.cells ∧ Ip4At W h os data ∧ Small4 b h os := by
  have c43 : Tryd.prog.cellsOf 35 = 43 := by kernel_rfl
  have ci : Tryd.prog.cellsOf 3 = 1 := by kernel_rfl
  have cbo : Tryd.prog.cellsOf 4 = 1 := by kernel_rfl
  have cp : Tryd.prog.cellsOf 31 = 17 := by kernel_rfl
  have cb : Tryd.prog.cellsOf 32 = 1 := by kernel_rfl
  have co : Tryd.prog.cellsOf 33 = 1 := by kernel_rfl
  obtain ⟨hl, hf⟩ := h.struct Tryd.underlying35
  have f0 : Rd Tryd.prog W b 3 ((cs.drop 0).take (Tryd.prog.cellsOf 3)) := hf 0 _ rfl
  have f1 : Rd Tryd.prog W b 3 ((cs.drop 1).take (Tryd.prog.cellsOf 3)) := hf 1 _ rfl
  have f2 : Rd Tryd.prog W b 4 ((cs.drop 2).take (Tryd.prog.cellsOf 4)) := hf 2 _ rfl
  have f3 : Rd Tryd.prog W b 4 ((cs.drop 3).take (Tryd.prog.cellsOf 4)) := hf 3 _ rfl
  have f4 : Rd Tryd.prog W b 3 ((cs.drop 4).take (Tryd.prog.cellsOf 3)) := hf 4 _ rfl
  have f5 : Rd Tryd.prog W b 3 ((cs.drop 5).take (Tryd.prog.cellsOf 3)) := hf 5 _ rfl
  have f6 : Rd Tryd.prog W b 3 ((cs.drop 6).take (Tryd.prog.cellsOf 3)) := hf 6 _ rfl
  have f7 : Rd Tryd.prog W b 31 ((cs.drop 7).take (Tryd.prog.cellsOf 31)) := hf 7 _ rfl
  have f8 : Rd Tryd.prog W b 31 ((cs.drop 24).take (Tryd.prog.cellsOf 31)) := hf 8 _ rfl
  have f9 : Rd Tryd.prog W b 33 ((cs.drop 41).take (Tryd.prog.cellsOf 33)) := hf 9 _ rfl
  have f10 : Rd Tryd.prog W b 32 ((cs.drop 42).take (Tryd.prog.cellsOf 32)) := hf 10 _ rfl
  rw [ci] at f0 f1 f4 f5 f6
  rw [cbo] at f2 f3
  rw [cp] at f7 f8
  rw [co] at f9
  rw [cb] at f10
  obtain ⟨k0, e0, -⟩ := f0.int Tryd.underlying3
  obtain ⟨k1, e1, -⟩ := f1.int Tryd.underlying3
  obtain ⟨k2, e2⟩ := f2.bool Tryd.underlying4
  obtain ⟨k3, e3⟩ := f3.bool Tryd.underlying4
  obtain ⟨k4, e4, -⟩ := f4.int Tryd.underlying3
  obtain ⟨k5, e5, -⟩ := f5.int Tryd.underlying3
  obtain ⟨k6, e6, -⟩ := f6.int Tryd.underlying3
  obtain ⟨q1, e7, b1⟩ := rd_ip f7
  obtain ⟨q2, e8, b2⟩ := rd_ip f8
  obtain ⟨so, os, e9, hO⟩ := rd_opts hb f9
  obtain ⟨s, l, e10, hB⟩ := rd_bytes hb f10
  refine ⟨⟨k0, k1, k2, k3, k4, k5, k6, q1, q2, so, s⟩, os, l, ?_, ⟨hO.1, hB.1, b1, b2⟩, hB.2, hO.2⟩
  have h2 : cs.drop 43 = [] := List.drop_of_length_le (by rw [hl, c43]; omega)
  rw [← List.drop_zero (l := cs), cutN e0, cutN e1, cutN e2, cutN e3, cutN e4, cutN e5, cutN e6, cutN e7, cutN e8, cutN e9, cutN e10, h2]
  rfl
set_option maxRecDepth 100000 in
theorem rd_frag (h : Rd Tryd.prog W b 41 cs) : ∃ f : FragV, cs = f.cells := by
  have c4 : Tryd.prog.cellsOf 41 = 4 := by kernel_rfl
  have ci : Tryd.prog.cellsOf 3 = 1 := by kernel_rfl
  have cbo : Tryd.prog.cellsOf 4 = 1 := by kernel_rfl
  obtain ⟨hl, hf⟩ := h.struct Tryd.underlying41
  have f0 : Rd Tryd.prog W b 4 ((cs.drop 0).take (Tryd.prog.cellsOf 4)) := hf 0 _ rfl
  have f1 : Rd Tryd.prog W b 4 ((cs.drop 1).take (Tryd.prog.cellsOf 4)) := hf 1 _ rfl
  have f2 : Rd Tryd.prog W b 3 ((cs.drop 2).take (Tryd.prog.cellsOf 3)) := hf 2 _ rfl
  have f3 : Rd Tryd.prog W b 3 ((cs.drop 3).take (Tryd.prog.cellsOf 3)) := hf 3 _ rfl
  rw [ci] at f2 f3
  rw [cbo] at f0 f1
  obtain ⟨k0, e0⟩ := f0.bool Tryd.underlying4
  obtain ⟨k1, e1⟩ := f1.bool Tryd.underlying4
  obtain ⟨k2, e2, -⟩ := f2.int Tryd.underlying3
  obtain ⟨k3, e3, -⟩ := f3.int Tryd.underlying3
  refine ⟨⟨k0, k1, k2, k3⟩, ?_⟩
  have h2 : cs.drop 4 = [] := List.drop_of_length_le (by rw [hl, c4]; omega)
  rw [← List.drop_zero (l := cs), cutN e0, cutN e1, cutN e2, cutN e3, h2]
  rfl
set_option maxRecDepth 100000 in
theorem rd_ip6 (hb : b ≤ 4000000) (h : Rd Tryd.prog W b 43 cs) : ∃ (h : Ip6V) (es : List ExtR) (data : List Int), cs = h.cells ∧ Ip6At W h es data ∧ Small6 b h es := by
  have c44 : Tryd.prog.cellsOf 43 = 44 := by kernel_rfl
  have ci : Tryd.prog.cellsOf 3 = 1 := by kernel_rfl
  have cf : Tryd.prog.cellsOf 41 = 4 := by kernel_rfl
  have cp : Tryd.prog.cellsOf 31 = 17 := by kernel_rfl
  have cb : Tryd.prog.cellsOf 32 = 1 := by kernel_rfl
  have ce : Tryd.prog.cellsOf 39 = 1 := by kernel_rfl
  obtain ⟨hl, hf⟩ := h.struct Tryd.underlying43
  have f0 : Rd Tryd.prog W b 3 ((cs.drop 0).take (Tryd.prog.cellsOf 3)) := hf 0 _ rfl
  have f1 : Rd Tryd.prog W b 3 ((cs.drop 1).take (Tryd.prog.cellsOf 3)) := hf 1 _ rfl
  have f2 : Rd Tryd.prog W b 3 ((cs.drop 2).take (Tryd.prog.cellsOf 3)) := hf 2 _ rfl
  have f3 : Rd Tryd.prog W b 31 ((cs.drop 3).take (Tryd.prog.cellsOf 31)) := hf 3 _ rfl
  have f4 : Rd Tryd.prog W b 31 ((cs.drop 20).take (Tryd.prog.cellsOf 31)) := hf 4 _ rfl
  have f5 : Rd Tryd.prog W b 39 ((cs.drop 37).take (Tryd.prog.cellsOf 39)) := hf 5 _ rfl
  have f6 : Rd Tryd.prog W b 41 ((cs.drop 38).take (Tryd.prog.cellsOf 41)) := hf 6 _ rfl
  have f7 : Rd Tryd.prog W b 3 ((cs.drop 42).take (Tryd.prog.cellsOf 3)) := hf 7 _ rfl
  have f8 : Rd Tryd.prog W b 32 ((cs.drop 43).take (Tryd.prog.cellsOf 32)) := hf 8 _ rfl
  rw [ci] at f0 f1 f2 f7
  rw [cp] at f3 f4
  rw [ce] at f5
  rw [cf] at f6
  rw [cb] at f8
  obtain ⟨k0, e0, -⟩ := f0.int Tryd.underlying3
  obtain ⟨k1, e1, -⟩ := f1.int Tryd.underlying3
  obtain ⟨k2, e2, -⟩ := f2.int Tryd.underlying3
  obtain ⟨q1, e3, b1⟩ := rd_ip f3
  obtain ⟨q2, e4, b2⟩ := rd_ip f4
  obtain ⟨se, es, e5, hX⟩ := rd_exts hb f5
  obtain ⟨fr, e6⟩ := rd_frag f6
  obtain ⟨k7, e7, -⟩ := f7.int Tryd.underlying3
  obtain ⟨s, l, e8, hB⟩ := rd_bytes hb f8
  refine ⟨⟨k0, k1, k2, q1, q2, se, fr, k7, s⟩, es, l, ?_, ⟨hX.1, hB.1, b1, b2⟩, hB.2, hX.2⟩
  have h2 : cs.drop 44 = [] := List.drop_of_length_le (by rw [hl, c44]; omega)
  rw [← List.drop_zero (l := cs), cutN e0, cutN e1, cutN e2, cutN e3, cutN e4, cutN e5, cutN e6, cutN e7, cutN e8, h2]
  rfl
end
end Go.Proofs.YthhgbpmihhljdaaDoor
/- The tables of kinds and of widths, as the row lists them. -/
namespace Go.Proofs.YthhgbpmihhljdaaDoor
open Go Go.ChangeShapes Go.WideShapes Go.ChangeAt Go.RowKit Go.Eng
def pairD {H : Type} (a b : Int) : DataW H := .agg [.lit (.int .i64 a), .lit (.int .i64 b)]
def knownD {H : Type} : DataW H := .agg [pairD 0 1, pairD 43 2, pairD 44 3, pairD 60 1]
theorem knownD_eq {H : Type} : (Rows.laid_weir_ip6_known : DataW H) = knownD := rfl
section
variable {H : Type} {enc : TypeId × Value → H} {W : World} {base : Nat} {sp : Nat → Bool} {held : Bool}
theorem pair_cells {fuel : Nat} {cs : List Value} {x : DataW H × List MemPlace} {a b : Int} (h : DataW.trod enc Tryd.prog W base sp held fuel 151 cs = some x) (hx : x.1 = pairD a b) : cs = [.int .i64 a, .int .i64 b] := by
  have c2 : Tryd.prog.cellsOf 151 = 2 := by kernel_rfl
  have ci : Tryd.prog.cellsOf 3 = 1 := by kernel_rfl
  obtain ⟨ys, m, rfl, rfl, hl, hlen, hf⟩ := DataW.trod_struct Tryd.underlying151 h
  have hlen : ys.length = 2 := hlen
  have f0 : DataW.trod enc Tryd.prog W base sp held m 3 ((cs.drop 0).take (Tryd.prog.cellsOf 3)) = ys[0]? := hf 0 _ rfl
  have f1 : DataW.trod enc Tryd.prog W base sp held m 3 ((cs.drop 1).take (Tryd.prog.cellsOf 3)) = ys[1]? := hf 1 _ rfl
  rw [ci] at f0 f1
  rw [c2] at hl
  match ys, hlen with
  | [y0, y1], _ =>
    simp only [pairD, List.map_cons, List.map_nil, DataW.agg.injEq, List.cons.injEq, and_true] at hx
    obtain ⟨h0, h1⟩ := hx
    obtain ⟨k0, e0, q0, -⟩ := DataW.trod_int Tryd.underlying3 (f0.trans rfl)
    obtain ⟨k1, e1, q1, -⟩ := DataW.trod_int Tryd.underlying3 (f1.trans rfl)
    have g0 : k0 = a := by rw [q0] at h0; simpa using h0
    have g1 : k1 = b := by rw [q1] at h1; simpa using h1
    subst g0; subst g1
    rw [← List.drop_zero (l := cs), cutN e0, cutN e1, List.drop_of_length_le (by omega)]
    rfl
end
set_option maxRecDepth 100000 in
theorem known_of {W : World} {cs : Array Value} {fuel : Nat} {p : List MemPlace} (hvar : W.var? Tryd.prog "weir/ip6.known" = some cs)
    (hd : DataW.trod (fun _ => ()) Tryd.prog W 0 (fun _ => true) false fuel 152 cs.toList = some (Rows.laid_weir_ip6_known, p)) : N6.Kn W := by
  have hg : Tryd.prog.globalNamed "weir/ip6.known" = some 0 := by kernel_rfl
  have c2 : Tryd.prog.cellsOf 151 = 2 := by kernel_rfl
  have c8 : Tryd.prog.cellsOf 152 = 8 := by kernel_rfl
  obtain ⟨xs, n, q, hx, hl, hlen, hf⟩ := DataW.trod_array Tryd.underlying152 hd
  rw [c8] at hl
  rw [c2] at hf
  have hD : (knownD : DataW Unit) = .agg (xs.map (·.1)) := by rw [← knownD_eq]; exact congrArg Prod.fst hx
  unfold knownD at hD
  injection hD with hD
  match xs, hlen with
  | [x0, x1, x2, x3], _ =>
    simp only [List.map_cons, List.map_nil, List.cons.injEq, and_true] at hD
    obtain ⟨h0, h1, h2, h3⟩ := hD
    have k0 := pair_cells (hf 0 (by decide)) h0.symm
    have k1 := pair_cells (hf 1 (by decide)) h1.symm
    have k2 := pair_cells (hf 2 (by decide)) h2.symm
    have k3 := pair_cells (hf 3 (by decide)) h3.symm
    have hL : cs.toList = N6.knownL := by
      rw [← List.drop_zero (l := cs.toList), cutN k0, cutN k1, cutN k2, cutN k3, List.drop_of_length_le (by omega)]
      rfl
    refine CellsAt.of N6.knownL 0 fun j v hv => ?_
    have := World.var?_cell hg hvar j
    rw [addr_add, Nat.zero_add, Nat.zero_add, this, ← hv, ← hL]
    simp
theorem known_tab {W : World} {rest : List (String × DataW Unit)} (h : laidMet Tryd.prog (("weir/ip6.known", Rows.laid_weir_ip6_known) :: rest) W) : N6.Kn W := by
  obtain ⟨ps, ⟨g', t', cs, fuel, p, q, hg', ht', hvar, hd, _, _⟩, _⟩ := h
  have hg : Tryd.prog.globalNamed "weir/ip6.known" = some 0 := by kernel_rfl
  have hty : (Tryd.prog.globals[0]?).map (·.type) = some 152 := by kernel_rfl
  obtain rfl := Option.some.inj (hg.symm.trans hg')
  obtain rfl := Option.some.inj (hty.symm.trans ht')
  exact known_of hvar hd
end Go.Proofs.YthhgbpmihhljdaaDoor
/- Lists of datagrams, and of whole numbers, as arguments. -/
namespace Go.Proofs.YthhgbpmihhljdaaDoor
open Go Go.ChangeShapes Go.WideShapes Go.ChangeAt Go.RowKit Go.Eng N6
section
variable {W : World} {cs : List Value}
set_option maxRecDepth 100000 in
theorem rd_l4 (h : Rd Tryd.prog W 1048576 22 cs) : ∃ (s : Sl) (rs : List R4), cs = [s.val] ∧ L4At W s rs := by
  have c3 : Tryd.prog.cellsOf 35 = 43 := by kernel_rfl
  obtain ⟨A, n, c, rs, rfl, hn, hcb, -, hl, hr, hel⟩ := h.slice Tryd.underlying22
  rw [c3] at hr
  obtain ⟨xs, hxs, hat⟩ := exists_map (f := fun r : R4 => r.v.cells) (Q := fun r => Ip4At W r.v r.opts r.data) (rs.take n) fun y hy => by
    obtain ⟨v, os, data, hc, hA, -⟩ := rd_ip4 (by decide) (hel y (List.mem_of_mem_take hy)).2
    exact ⟨⟨v, os, data⟩, hc, hA⟩
  refine ⟨⟨A, n, c⟩, xs, rfl, ?_, by show n ≤ 4000000; omega, ?_, hat⟩
  · have := congrArg List.length hxs; simp at this; show xs.length = n; omega
  · have := recs_take hr n
    rw [hxs] at this; exact this
set_option maxRecDepth 100000 in
theorem rd_l6 (h : Rd Tryd.prog W 1048576 23 cs) : ∃ (s : Sl) (rs : List R6), cs = [s.val] ∧ L6At W s rs := by
  have c3 : Tryd.prog.cellsOf 43 = 44 := by kernel_rfl
  obtain ⟨A, n, c, rs, rfl, hn, hcb, -, hl, hr, hel⟩ := h.slice Tryd.underlying23
  rw [c3] at hr
  obtain ⟨xs, hxs, hat⟩ := exists_map (f := fun r : R6 => r.v.cells) (Q := fun r => Ip6At W r.v r.exts r.data) (rs.take n) fun y hy => by
    obtain ⟨v, es, data, hc, hA, -⟩ := rd_ip6 (by decide) (hel y (List.mem_of_mem_take hy)).2
    exact ⟨⟨v, es, data⟩, hc, hA⟩
  refine ⟨⟨A, n, c⟩, xs, rfl, ?_, by show n ≤ 4000000; omega, ?_, hat⟩
  · have := congrArg List.length hxs; simp at this; show xs.length = n; omega
  · have := recs_take hr n
    rw [hxs] at this; exact this
end
section
variable {W : World} {base : Nat} {v : Value} {H : Type} {enc : TypeId × Value → H} {d : DataW H} {p : List MemPlace}
set_option maxRecDepth 100000 in
theorem arg_l4 (hval : Value.okWide Tryd.prog W .any base 22 v) (h : DataW.Trod enc Tryd.prog W 0 (fun _ => true) true 22 v d p) (hb : Rows.uptoBulk d ≤ 1048576) : ∃ (s : Sl) (rs : List R4), v = s.val ∧ L4At W s rs := by
  obtain ⟨A, n, c, rfl⟩ := okWide_slice Tryd.underlying22 hval
  obtain ⟨s, rs, hc, hT⟩ := rd_l4 (Rd.of h hb)
  have hc : [Value.slice A n c] = [s.val] := hc
  injection hc with hc
  exact ⟨s, rs, hc, hT⟩
set_option maxRecDepth 100000 in
theorem arg_l6 (hval : Value.okWide Tryd.prog W .any base 23 v) (h : DataW.Trod enc Tryd.prog W 0 (fun _ => true) true 23 v d p) (hb : Rows.uptoBulk d ≤ 1048576) : ∃ (s : Sl) (rs : List R6), v = s.val ∧ L6At W s rs := by
  obtain ⟨A, n, c, rfl⟩ := okWide_slice Tryd.underlying23 hval
  obtain ⟨s, rs, hc, hT⟩ := rd_l6 (Rd.of h hb)
  have hc : [Value.slice A n c] = [s.val] := hc
  injection hc with hc
  exact ⟨s, rs, hc, hT⟩
set_option maxRecDepth 100000 in
theorem arg_li (hval : Value.okWide Tryd.prog W .any base 24 v) (h : DataW.Trod enc Tryd.prog W 0 (fun _ => true) true 24 v d p) (hb : Rows.uptoBulk d ≤ 1048576) : ∃ (s : Sl) (zs : List Int), v = s.val ∧ Cells W s.A (zs.map (.int .i64)) ∧ zs.length = s.n ∧ s.n ≤ 1048576 := by
  obtain ⟨A, n, c, zs, rfl, hn, hl, hc, -, -, hcb⟩ := arg_ints Tryd.underlying24 Tryd.underlying3 (by kernel_rfl) hval h
  exact ⟨⟨A, n, c⟩, zs.take n, rfl, Cells.upto hc n, by simp; omega, by show n ≤ 1048576; omega⟩
end
end Go.Proofs.YthhgbpmihhljdaaDoor
