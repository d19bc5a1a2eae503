/- Values of the program's types, by their parts: their cells, their zero, how one is found in memory. (Printed by shapes.py, a program of this session.) -/
import Derived.Test.YtkiogaglmjeplaaDoorBd
namespace Go.Eng
open Go
/-- A slice, by its parts. -/
structure Sl where
  A : Option Addr
  n : Nat
  k : Nat
def Sl.val (s : Sl) : Value := .slice s.A s.n s.k
def Sl.z : Sl := ⟨none, 0, 0⟩
structure A16V where
  a0 : Int
  a1 : Int
  a2 : Int
  a3 : Int
  a4 : Int
  a5 : Int
  a6 : Int
  a7 : Int
  a8 : Int
  a9 : Int
  a10 : Int
  a11 : Int
  a12 : Int
  a13 : Int
  a14 : Int
  a15 : Int
def A16V.cells (h : A16V) : List Value := [.int .u8 h.a0, .int .u8 h.a1, .int .u8 h.a2, .int .u8 h.a3, .int .u8 h.a4, .int .u8 h.a5, .int .u8 h.a6, .int .u8 h.a7, .int .u8 h.a8, .int .u8 h.a9, .int .u8 h.a10, .int .u8 h.a11, .int .u8 h.a12, .int .u8 h.a13, .int .u8 h.a14, .int .u8 h.a15]
def A16V.val (h : A16V) : Value := .agg #[.int .u8 h.a0, .int .u8 h.a1, .int .u8 h.a2, .int .u8 h.a3, .int .u8 h.a4, .int .u8 h.a5, .int .u8 h.a6, .int .u8 h.a7, .int .u8 h.a8, .int .u8 h.a9, .int .u8 h.a10, .int .u8 h.a11, .int .u8 h.a12, .int .u8 h.a13, .int .u8 h.a14, .int .u8 h.a15]
def A16V.ex (K : A16V → Prop) : Prop := ∃ a0 : Int, ∃ a1 : Int, ∃ a2 : Int, ∃ a3 : Int, ∃ a4 : Int, ∃ a5 : Int, ∃ a6 : Int, ∃ a7 : Int, ∃ a8 : Int, ∃ a9 : Int, ∃ a10 : Int, ∃ a11 : Int, ∃ a12 : Int, ∃ a13 : Int, ∃ a14 : Int, ∃ a15 : Int, K ⟨a0, a1, a2, a3, a4, a5, a6, a7, a8, a9, a10, a11, a12, a13, a14, a15⟩
theorem A16V.of {K : A16V → Prop} (h : A16V) (hK : K h) : A16V.ex K := by unfold A16V.ex; exact ⟨_, _, _, _, _, _, _, _, _, _, _, _, _, _, _, _, hK⟩
def A16V.z : A16V := ⟨0, 0, 0, 0, 0, 0, 0, 0, 0, 0, 0, 0, 0, 0, 0, 0⟩
theorem A16V.one (h : A16V) : ∀ v ∈ h.cells, v.oneCell' = true := List.all_eq_true.1 (rfl : h.cells.all Value.oneCell' = true)
def A16V.beq (a b : A16V) : Bool := ((decide (a.a0 = b.a0)) && ((decide (a.a1 = b.a1)) && ((decide (a.a2 = b.a2)) && ((decide (a.a3 = b.a3)) && ((decide (a.a4 = b.a4)) && ((decide (a.a5 = b.a5)) && ((decide (a.a6 = b.a6)) && ((decide (a.a7 = b.a7)) && ((decide (a.a8 = b.a8)) && ((decide (a.a9 = b.a9)) && ((decide (a.a10 = b.a10)) && ((decide (a.a11 = b.a11)) && ((decide (a.a12 = b.a12)) && ((decide (a.a13 = b.a13)) && ((decide (a.a14 = b.a14)) && ((decide (a.a15 = b.a15)) && true))))))))))))))))
structure IPV where
  v : Int
  a0 : Int
  a1 : Int
  a2 : Int
  a3 : Int
  a4 : Int
  a5 : Int
  a6 : Int
  a7 : Int
  a8 : Int
  a9 : Int
  a10 : Int
  a11 : Int
  a12 : Int
  a13 : Int
  a14 : Int
  a15 : Int
def IPV.cells (h : IPV) : List Value := [.int .i64 h.v, .int .u8 h.a0, .int .u8 h.a1, .int .u8 h.a2, .int .u8 h.a3, .int .u8 h.a4, .int .u8 h.a5, .int .u8 h.a6, .int .u8 h.a7, .int .u8 h.a8, .int .u8 h.a9, .int .u8 h.a10, .int .u8 h.a11, .int .u8 h.a12, .int .u8 h.a13, .int .u8 h.a14, .int .u8 h.a15]
def IPV.val (h : IPV) : Value := .agg #[.int .i64 h.v, .int .u8 h.a0, .int .u8 h.a1, .int .u8 h.a2, .int .u8 h.a3, .int .u8 h.a4, .int .u8 h.a5, .int .u8 h.a6, .int .u8 h.a7, .int .u8 h.a8, .int .u8 h.a9, .int .u8 h.a10, .int .u8 h.a11, .int .u8 h.a12, .int .u8 h.a13, .int .u8 h.a14, .int .u8 h.a15]
def IPV.bytes (p : IPV) : List Int := [p.a0, p.a1, p.a2, p.a3, p.a4, p.a5, p.a6, p.a7, p.a8, p.a9, p.a10, p.a11, p.a12, p.a13, p.a14, p.a15]
def IPV.ex (K : IPV → Prop) : Prop := ∃ v : Int, ∃ a0 : Int, ∃ a1 : Int, ∃ a2 : Int, ∃ a3 : Int, ∃ a4 : Int, ∃ a5 : Int, ∃ a6 : Int, ∃ a7 : Int, ∃ a8 : Int, ∃ a9 : Int, ∃ a10 : Int, ∃ a11 : Int, ∃ a12 : Int, ∃ a13 : Int, ∃ a14 : Int, ∃ a15 : Int, K ⟨v, a0, a1, a2, a3, a4, a5, a6, a7, a8, a9, a10, a11, a12, a13, a14, a15⟩
theorem IPV.of {K : IPV → Prop} (h : IPV) (hK : K h) : IPV.ex K := by unfold IPV.ex; exact ⟨_, _, _, _, _, _, _, _, _, _, _, _, _, _, _, _, _, hK⟩
def IPV.z : IPV := ⟨0, 0, 0, 0, 0, 0, 0, 0, 0, 0, 0, 0, 0, 0, 0, 0, 0⟩
theorem IPV.one (h : IPV) : ∀ v ∈ h.cells, v.oneCell' = true := List.all_eq_true.1 (rfl : h.cells.all Value.oneCell' = true)
def IPV.beq (a b : IPV) : Bool := ((decide (a.v = b.v)) && (((decide (a.a0 = b.a0)) && ((decide (a.a1 = b.a1)) && ((decide (a.a2 = b.a2)) && ((decide (a.a3 = b.a3)) && ((decide (a.a4 = b.a4)) && ((decide (a.a5 = b.a5)) && ((decide (a.a6 = b.a6)) && ((decide (a.a7 = b.a7)) && ((decide (a.a8 = b.a8)) && ((decide (a.a9 = b.a9)) && ((decide (a.a10 = b.a10)) && ((decide (a.a11 = b.a11)) && ((decide (a.a12 = b.a12)) && ((decide (a.a13 = b.a13)) && ((decide (a.a14 = b.a14)) && ((decide (a.a15 = b.a15)) && true)))))))))))))))) && true))
structure FragV where
  has : Bool
  more : Bool
  id : Int
  off : Int
def FragV.cells (h : FragV) : List Value := [.bool h.has, .bool h.more, .int .i64 h.id, .int .i64 h.off]
def FragV.val (h : FragV) : Value := .agg #[.bool h.has, .bool h.more, .int .i64 h.id, .int .i64 h.off]
def FragV.ex (K : FragV → Prop) : Prop := ∃ has : Bool, ∃ more : Bool, ∃ id : Int, ∃ off : Int, K ⟨has, more, id, off⟩
theorem FragV.of {K : FragV → Prop} (h : FragV) (hK : K h) : FragV.ex K := by unfold FragV.ex; exact ⟨_, _, _, _, hK⟩
def FragV.z : FragV := ⟨false, false, 0, 0⟩
theorem FragV.one (h : FragV) : ∀ v ∈ h.cells, v.oneCell' = true := List.all_eq_true.1 (rfl : h.cells.all Value.oneCell' = true)
def FragV.beq (a b : FragV) : Bool := ((a.has == b.has) && ((a.more == b.more) && ((decide (a.id = b.id)) && ((decide (a.off = b.off)) && true))))
structure OptV where
  kind : Int
  data : Sl
def OptV.cells (h : OptV) : List Value := [.int .i64 h.kind, .slice h.data.A h.data.n h.data.k]
def OptV.val (h : OptV) : Value := .agg #[.int .i64 h.kind, .slice h.data.A h.data.n h.data.k]
def OptV.ex (K : OptV → Prop) : Prop := ∃ kind : Int, ∃ (dataA : Option Addr) (datan datak : Nat), K ⟨kind, ⟨dataA, datan, datak⟩⟩
theorem OptV.of {K : OptV → Prop} (h : OptV) (hK : K h) : OptV.ex K := by unfold OptV.ex; exact ⟨_, _, _, _, hK⟩
def OptV.z : OptV := ⟨0, ⟨none, 0, 0⟩⟩
theorem OptV.one (h : OptV) : ∀ v ∈ h.cells, v.oneCell' = true := List.all_eq_true.1 (rfl : h.cells.all Value.oneCell' = true)
structure ExtV where
  kind : Int
  opts : Sl
  data : Sl
def ExtV.cells (h : ExtV) : List Value := [.int .i64 h.kind, .slice h.opts.A h.opts.n h.opts.k, .slice h.data.A h.data.n h.data.k]
def ExtV.val (h : ExtV) : Value := .agg #[.int .i64 h.kind, .slice h.opts.A h.opts.n h.opts.k, .slice h.data.A h.data.n h.data.k]
def ExtV.ex (K : ExtV → Prop) : Prop := ∃ kind : Int, ∃ (optsA : Option Addr) (optsn optsk : Nat), ∃ (dataA : Option Addr) (datan datak : Nat), K ⟨kind, ⟨optsA, optsn, optsk⟩, ⟨dataA, datan, datak⟩⟩
theorem ExtV.of {K : ExtV → Prop} (h : ExtV) (hK : K h) : ExtV.ex K := by unfold ExtV.ex; exact ⟨_, _, _, _, _, _, _, hK⟩
def ExtV.z : ExtV := ⟨0, ⟨none, 0, 0⟩, ⟨none, 0, 0⟩⟩
theorem ExtV.one (h : ExtV) : ∀ v ∈ h.cells, v.oneCell' = true := List.all_eq_true.1 (rfl : h.cells.all Value.oneCell' = true)
structure Ip4V where
  tos : Int
  id : Int
  df : Bool
  mf : Bool
  off : Int
  ttl : Int
  proto : Int
  src : IPV
  dst : IPV
  opts : Sl
  data : Sl
def Ip4V.cells (h : Ip4V) : List Value := [.int .i64 h.tos, .int .i64 h.id, .bool h.df, .bool h.mf, .int .i64 h.off, .int .i64 h.ttl, .int .i64 h.proto, .int .i64 h.src.v, .int .u8 h.src.a0, .int .u8 h.src.a1, .int .u8 h.src.a2, .int .u8 h.src.a3, .int .u8 h.src.a4, .int .u8 h.src.a5, .int .u8 h.src.a6, .int .u8 h.src.a7, .int .u8 h.src.a8, .int .u8 h.src.a9, .int .u8 h.src.a10, .int .u8 h.src.a11, .int .u8 h.src.a12, .int .u8 h.src.a13, .int .u8 h.src.a14, .int .u8 h.src.a15, .int .i64 h.dst.v, .int .u8 h.dst.a0, .int .u8 h.dst.a1, .int .u8 h.dst.a2, .int .u8 h.dst.a3, .int .u8 h.dst.a4, .int .u8 h.dst.a5, .int .u8 h.dst.a6, .int .u8 h.dst.a7, .int .u8 h.dst.a8, .int .u8 h.dst.a9, .int .u8 h.dst.a10, .int .u8 h.dst.a11, .int .u8 h.dst.a12, .int .u8 h.dst.a13, .int .u8 h.dst.a14, .int .u8 h.dst.a15, .slice h.opts.A h.opts.n h.opts.k, .slice h.data.A h.data.n h.data.k]
def Ip4V.val (h : Ip4V) : Value := .agg #[.int .i64 h.tos, .int .i64 h.id, .bool h.df, .bool h.mf, .int .i64 h.off, .int .i64 h.ttl, .int .i64 h.proto, .int .i64 h.src.v, .int .u8 h.src.a0, .int .u8 h.src.a1, .int .u8 h.src.a2, .int .u8 h.src.a3, .int .u8 h.src.a4, .int .u8 h.src.a5, .int .u8 h.src.a6, .int .u8 h.src.a7, .int .u8 h.src.a8, .int .u8 h.src.a9, .int .u8 h.src.a10, .int .u8 h.src.a11, .int .u8 h.src.a12, .int .u8 h.src.a13, .int .u8 h.src.a14, .int .u8 h.src.a15, .int .i64 h.dst.v, .int .u8 h.dst.a0, .int .u8 h.dst.a1, .int .u8 h.dst.a2, .int .u8 h.dst.a3, .int .u8 h.dst.a4, .int .u8 h.dst.a5, .int .u8 h.dst.a6, .int .u8 h.dst.a7, .int .u8 h.dst.a8, .int .u8 h.dst.a9, .int .u8 h.dst.a10, .int .u8 h.dst.a11, .int .u8 h.dst.a12, .int .u8 h.dst.a13, .int .u8 h.dst.a14, .int .u8 h.dst.a15, .slice h.opts.A h.opts.n h.opts.k, .slice h.data.A h.data.n h.data.k]
def Ip4V.ex (K : Ip4V → Prop) : Prop := ∃ tos : Int, ∃ id : Int, ∃ df : Bool, ∃ mf : Bool, ∃ off : Int, ∃ ttl : Int, ∃ proto : Int, ∃ src_v : Int, ∃ src_a0 : Int, ∃ src_a1 : Int, ∃ src_a2 : Int, ∃ src_a3 : Int, ∃ src_a4 : Int, ∃ src_a5 : Int, ∃ src_a6 : Int, ∃ src_a7 : Int, ∃ src_a8 : Int, ∃ src_a9 : Int, ∃ src_a10 : Int, ∃ src_a11 : Int, ∃ src_a12 : Int, ∃ src_a13 : Int, ∃ src_a14 : Int, ∃ src_a15 : Int, ∃ dst_v : Int, ∃ dst_a0 : Int, ∃ dst_a1 : Int, ∃ dst_a2 : Int, ∃ dst_a3 : Int, ∃ dst_a4 : Int, ∃ dst_a5 : Int, ∃ dst_a6 : Int, ∃ dst_a7 : Int, ∃ dst_a8 : Int, ∃ dst_a9 : Int, ∃ dst_a10 : Int, ∃ dst_a11 : Int, ∃ dst_a12 : Int, ∃ dst_a13 : Int, ∃ dst_a14 : Int, ∃ dst_a15 : Int, ∃ (optsA : Option Addr) (optsn optsk : Nat), ∃ (dataA : Option Addr) (datan datak : Nat), K ⟨tos, id, df, mf, off, ttl, proto, ⟨src_v, src_a0, src_a1, src_a2, src_a3, src_a4, src_a5, src_a6, src_a7, src_a8, src_a9, src_a10, src_a11, src_a12, src_a13, src_a14, src_a15⟩, ⟨dst_v, dst_a0, dst_a1, dst_a2, dst_a3, dst_a4, dst_a5, dst_a6, dst_a7, dst_a8, dst_a9, dst_a10, dst_a11, dst_a12, dst_a13, dst_a14, dst_a15⟩, ⟨optsA, optsn, optsk⟩, ⟨dataA, datan, datak⟩⟩
theorem Ip4V.of {K : Ip4V → Prop} (h : Ip4V) (hK : K h) : Ip4V.ex K := by unfold Ip4V.ex; exact ⟨_, _, _, _, _, _, _, _, _, _, _, _, _, _, _, _, _, _, _, _, _, _, _, _, _, _, _, _, _, _, _, _, _, _, _, _, _, _, _, _, _, _, _, _, _, _, _, hK⟩
def Ip4V.z : Ip4V := ⟨0, 0, false, false, 0, 0, 0, ⟨0, 0, 0, 0, 0, 0, 0, 0, 0, 0, 0, 0, 0, 0, 0, 0, 0⟩, ⟨0, 0, 0, 0, 0, 0, 0, 0, 0, 0, 0, 0, 0, 0, 0, 0, 0⟩, ⟨none, 0, 0⟩, ⟨none, 0, 0⟩⟩
theorem Ip4V.one (h : Ip4V) : ∀ v ∈ h.cells, v.oneCell' = true := List.all_eq_true.1 (rfl : h.cells.all Value.oneCell' = true)
structure Ip6V where
  cls : Int
  flow : Int
  hop : Int
  src : IPV
  dst : IPV
  exts : Sl
  frag : FragV
  next : Int
  data : Sl
def Ip6V.cells (h : Ip6V) : List Value := [.int .i64 h.cls, .int .i64 h.flow, .int .i64 h.hop, .int .i64 h.src.v, .int .u8 h.src.a0, .int .u8 h.src.a1, .int .u8 h.src.a2, .int .u8 h.src.a3, .int .u8 h.src.a4, .int .u8 h.src.a5, .int .u8 h.src.a6, .int .u8 h.src.a7, .int .u8 h.src.a8, .int .u8 h.src.a9, .int .u8 h.src.a10, .int .u8 h.src.a11, .int .u8 h.src.a12, .int .u8 h.src.a13, .int .u8 h.src.a14, .int .u8 h.src.a15, .int .i64 h.dst.v, .int .u8 h.dst.a0, .int .u8 h.dst.a1, .int .u8 h.dst.a2, .int .u8 h.dst.a3, .int .u8 h.dst.a4, .int .u8 h.dst.a5, .int .u8 h.dst.a6, .int .u8 h.dst.a7, .int .u8 h.dst.a8, .int .u8 h.dst.a9, .int .u8 h.dst.a10, .int .u8 h.dst.a11, .int .u8 h.dst.a12, .int .u8 h.dst.a13, .int .u8 h.dst.a14, .int .u8 h.dst.a15, .slice h.exts.A h.exts.n h.exts.k, .bool h.frag.has, .bool h.frag.more, .int .i64 h.frag.id, .int .i64 h.frag.off, .int .i64 h.next, .slice h.data.A h.data.n h.data.k]
def Ip6V.val (h : Ip6V) : Value := .agg #[.int .i64 h.cls, .int .i64 h.flow, .int .i64 h.hop, .int .i64 h.src.v, .int .u8 h.src.a0, .int .u8 h.src.a1, .int .u8 h.src.a2, .int .u8 h.src.a3, .int .u8 h.src.a4, .int .u8 h.src.a5, .int .u8 h.src.a6, .int .u8 h.src.a7, .int .u8 h.src.a8, .int .u8 h.src.a9, .int .u8 h.src.a10, .int .u8 h.src.a11, .int .u8 h.src.a12, .int .u8 h.src.a13, .int .u8 h.src.a14, .int .u8 h.src.a15, .int .i64 h.dst.v, .int .u8 h.dst.a0, .int .u8 h.dst.a1, .int .u8 h.dst.a2, .int .u8 h.dst.a3, .int .u8 h.dst.a4, .int .u8 h.dst.a5, .int .u8 h.dst.a6, .int .u8 h.dst.a7, .int .u8 h.dst.a8, .int .u8 h.dst.a9, .int .u8 h.dst.a10, .int .u8 h.dst.a11, .int .u8 h.dst.a12, .int .u8 h.dst.a13, .int .u8 h.dst.a14, .int .u8 h.dst.a15, .slice h.exts.A h.exts.n h.exts.k, .bool h.frag.has, .bool h.frag.more, .int .i64 h.frag.id, .int .i64 h.frag.off, .int .i64 h.next, .slice h.data.A h.data.n h.data.k]
def Ip6V.ex (K : Ip6V → Prop) : Prop := ∃ cls : Int, ∃ flow : Int, ∃ hop : Int, ∃ src_v : Int, ∃ src_a0 : Int, ∃ src_a1 : Int, ∃ src_a2 : Int, ∃ src_a3 : Int, ∃ src_a4 : Int, ∃ src_a5 : Int, ∃ src_a6 : Int, ∃ src_a7 : Int, ∃ src_a8 : Int, ∃ src_a9 : Int, ∃ src_a10 : Int, ∃ src_a11 : Int, ∃ src_a12 : Int, ∃ src_a13 : Int, ∃ src_a14 : Int, ∃ src_a15 : Int, ∃ dst_v : Int, ∃ dst_a0 : Int, ∃ dst_a1 : Int, ∃ dst_a2 : Int, ∃ dst_a3 : Int, ∃ dst_a4 : Int, ∃ dst_a5 : Int, ∃ dst_a6 : Int, ∃ dst_a7 : Int, ∃ dst_a8 : Int, ∃ dst_a9 : Int, ∃ dst_a10 : Int, ∃ dst_a11 : Int, ∃ dst_a12 : Int, ∃ dst_a13 : Int, ∃ dst_a14 : Int, ∃ dst_a15 : Int, ∃ (extsA : Option Addr) (extsn extsk : Nat), ∃ frag_has : Bool, ∃ frag_more : Bool, ∃ frag_id : Int, ∃ frag_off : Int, ∃ next : Int, ∃ (dataA : Option Addr) (datan datak : Nat), K ⟨cls, flow, hop, ⟨src_v, src_a0, src_a1, src_a2, src_a3, src_a4, src_a5, src_a6, src_a7, src_a8, src_a9, src_a10, src_a11, src_a12, src_a13, src_a14, src_a15⟩, ⟨dst_v, dst_a0, dst_a1, dst_a2, dst_a3, dst_a4, dst_a5, dst_a6, dst_a7, dst_a8, dst_a9, dst_a10, dst_a11, dst_a12, dst_a13, dst_a14, dst_a15⟩, ⟨extsA, extsn, extsk⟩, ⟨frag_has, frag_more, frag_id, frag_off⟩, next, ⟨dataA, datan, datak⟩⟩
theorem Ip6V.of {K : Ip6V → Prop} (h : Ip6V) (hK : K h) : Ip6V.ex K := by unfold Ip6V.ex; exact ⟨_, _, _, _, _, _, _, _, _, _, _, _, _, _, _, _, _, _, _, _, _, _, _, _, _, _, _, _, _, _, _, _, _, _, _, _, _, _, _, _, _, _, _, _, _, _, _, _, hK⟩
def Ip6V.z : Ip6V := ⟨0, 0, 0, ⟨0, 0, 0, 0, 0, 0, 0, 0, 0, 0, 0, 0, 0, 0, 0, 0, 0⟩, ⟨0, 0, 0, 0, 0, 0, 0, 0, 0, 0, 0, 0, 0, 0, 0, 0, 0⟩, ⟨none, 0, 0⟩, ⟨false, false, 0, 0⟩, 0, ⟨none, 0, 0⟩⟩
theorem Ip6V.one (h : Ip6V) : ∀ v ∈ h.cells, v.oneCell' = true := List.all_eq_true.1 (rfl : h.cells.all Value.oneCell' = true)
structure IcmV where
  v : Int
  t : Int
  c : Int
  r : Int
  data : Sl
def IcmV.cells (h : IcmV) : List Value := [.int .i64 h.v, .int .i64 h.t, .int .i64 h.c, .int .i64 h.r, .slice h.data.A h.data.n h.data.k]
def IcmV.val (h : IcmV) : Value := .agg #[.int .i64 h.v, .int .i64 h.t, .int .i64 h.c, .int .i64 h.r, .slice h.data.A h.data.n h.data.k]
def IcmV.ex (K : IcmV → Prop) : Prop := ∃ v : Int, ∃ t : Int, ∃ c : Int, ∃ r : Int, ∃ (dataA : Option Addr) (datan datak : Nat), K ⟨v, t, c, r, ⟨dataA, datan, datak⟩⟩
theorem IcmV.of {K : IcmV → Prop} (h : IcmV) (hK : K h) : IcmV.ex K := by unfold IcmV.ex; exact ⟨_, _, _, _, _, _, _, hK⟩
def IcmV.z : IcmV := ⟨0, 0, 0, 0, ⟨none, 0, 0⟩⟩
theorem IcmV.one (h : IcmV) : ∀ v ∈ h.cells, v.oneCell' = true := List.all_eq_true.1 (rfl : h.cells.all Value.oneCell' = true)
structure TrbV where
  kind : Int
  extra : Int
def TrbV.cells (h : TrbV) : List Value := [.int .i64 h.kind, .int .i64 h.extra]
def TrbV.val (h : TrbV) : Value := .agg #[.int .i64 h.kind, .int .i64 h.extra]
def TrbV.ex (K : TrbV → Prop) : Prop := ∃ kind : Int, ∃ extra : Int, K ⟨kind, extra⟩
theorem TrbV.of {K : TrbV → Prop} (h : TrbV) (hK : K h) : TrbV.ex K := by unfold TrbV.ex; exact ⟨_, _, hK⟩
def TrbV.z : TrbV := ⟨0, 0⟩
theorem TrbV.one (h : TrbV) : ∀ v ∈ h.cells, v.oneCell' = true := List.all_eq_true.1 (rfl : h.cells.all Value.oneCell' = true)
def TrbV.beq (a b : TrbV) : Bool := ((decide (a.kind = b.kind)) && ((decide (a.extra = b.extra)) && true))
structure ChnV where
  exts : Sl
  frag : FragV
  next : Int
  data : Sl
def ChnV.cells (h : ChnV) : List Value := [.slice h.exts.A h.exts.n h.exts.k, .bool h.frag.has, .bool h.frag.more, .int .i64 h.frag.id, .int .i64 h.frag.off, .int .i64 h.next, .slice h.data.A h.data.n h.data.k]
def ChnV.val (h : ChnV) : Value := .agg #[.slice h.exts.A h.exts.n h.exts.k, .bool h.frag.has, .bool h.frag.more, .int .i64 h.frag.id, .int .i64 h.frag.off, .int .i64 h.next, .slice h.data.A h.data.n h.data.k]
def ChnV.ex (K : ChnV → Prop) : Prop := ∃ (extsA : Option Addr) (extsn extsk : Nat), ∃ frag_has : Bool, ∃ frag_more : Bool, ∃ frag_id : Int, ∃ frag_off : Int, ∃ next : Int, ∃ (dataA : Option Addr) (datan datak : Nat), K ⟨⟨extsA, extsn, extsk⟩, ⟨frag_has, frag_more, frag_id, frag_off⟩, next, ⟨dataA, datan, datak⟩⟩
theorem ChnV.of {K : ChnV → Prop} (h : ChnV) (hK : K h) : ChnV.ex K := by unfold ChnV.ex; exact ⟨_, _, _, _, _, _, _, _, _, _, _, hK⟩
def ChnV.z : ChnV := ⟨⟨none, 0, 0⟩, ⟨false, false, 0, 0⟩, 0, ⟨none, 0, 0⟩⟩
theorem ChnV.one (h : ChnV) : ∀ v ∈ h.cells, v.oneCell' = true := List.all_eq_true.1 (rfl : h.cells.all Value.oneCell' = true)
structure Hd4V where
  al : Int
  ke : Int
def Hd4V.cells (h : Hd4V) : List Value := [.int .i64 h.al, .int .i64 h.ke]
def Hd4V.val (h : Hd4V) : Value := .agg #[.int .i64 h.al, .int .i64 h.ke]
def Hd4V.ex (K : Hd4V → Prop) : Prop := ∃ al : Int, ∃ ke : Int, K ⟨al, ke⟩
theorem Hd4V.of {K : Hd4V → Prop} (h : Hd4V) (hK : K h) : Hd4V.ex K := by unfold Hd4V.ex; exact ⟨_, _, hK⟩
def Hd4V.z : Hd4V := ⟨0, 0⟩
theorem Hd4V.one (h : Hd4V) : ∀ v ∈ h.cells, v.oneCell' = true := List.all_eq_true.1 (rfl : h.cells.all Value.oneCell' = true)
def Hd4V.beq (a b : Hd4V) : Bool := ((decide (a.al = b.al)) && ((decide (a.ke = b.ke)) && true))
structure PieV where
  off : Int
  data : Sl
  last : Bool
def PieV.cells (h : PieV) : List Value := [.int .i64 h.off, .slice h.data.A h.data.n h.data.k, .bool h.last]
def PieV.val (h : PieV) : Value := .agg #[.int .i64 h.off, .slice h.data.A h.data.n h.data.k, .bool h.last]
def PieV.ex (K : PieV → Prop) : Prop := ∃ off : Int, ∃ (dataA : Option Addr) (datan datak : Nat), ∃ last : Bool, K ⟨off, ⟨dataA, datan, datak⟩, last⟩
theorem PieV.of {K : PieV → Prop} (h : PieV) (hK : K h) : PieV.ex K := by unfold PieV.ex; exact ⟨_, _, _, _, _, hK⟩
def PieV.z : PieV := ⟨0, ⟨none, 0, 0⟩, false⟩
theorem PieV.one (h : PieV) : ∀ v ∈ h.cells, v.oneCell' = true := List.all_eq_true.1 (rfl : h.cells.all Value.oneCell' = true)
structure Op7V where
  kind : Int
  b : Sl
  h : Ip6V
  n : Int
def Op7V.cells (h : Op7V) : List Value := [.int .i64 h.kind, .slice h.b.A h.b.n h.b.k, .int .i64 h.h.cls, .int .i64 h.h.flow, .int .i64 h.h.hop, .int .i64 h.h.src.v, .int .u8 h.h.src.a0, .int .u8 h.h.src.a1, .int .u8 h.h.src.a2, .int .u8 h.h.src.a3, .int .u8 h.h.src.a4, .int .u8 h.h.src.a5, .int .u8 h.h.src.a6, .int .u8 h.h.src.a7, .int .u8 h.h.src.a8, .int .u8 h.h.src.a9, .int .u8 h.h.src.a10, .int .u8 h.h.src.a11, .int .u8 h.h.src.a12, .int .u8 h.h.src.a13, .int .u8 h.h.src.a14, .int .u8 h.h.src.a15, .int .i64 h.h.dst.v, .int .u8 h.h.dst.a0, .int .u8 h.h.dst.a1, .int .u8 h.h.dst.a2, .int .u8 h.h.dst.a3, .int .u8 h.h.dst.a4, .int .u8 h.h.dst.a5, .int .u8 h.h.dst.a6, .int .u8 h.h.dst.a7, .int .u8 h.h.dst.a8, .int .u8 h.h.dst.a9, .int .u8 h.h.dst.a10, .int .u8 h.h.dst.a11, .int .u8 h.h.dst.a12, .int .u8 h.h.dst.a13, .int .u8 h.h.dst.a14, .int .u8 h.h.dst.a15, .slice h.h.exts.A h.h.exts.n h.h.exts.k, .bool h.h.frag.has, .bool h.h.frag.more, .int .i64 h.h.frag.id, .int .i64 h.h.frag.off, .int .i64 h.h.next, .slice h.h.data.A h.h.data.n h.h.data.k, .int .i64 h.n]
def Op7V.val (h : Op7V) : Value := .agg #[.int .i64 h.kind, .slice h.b.A h.b.n h.b.k, .int .i64 h.h.cls, .int .i64 h.h.flow, .int .i64 h.h.hop, .int .i64 h.h.src.v, .int .u8 h.h.src.a0, .int .u8 h.h.src.a1, .int .u8 h.h.src.a2, .int .u8 h.h.src.a3, .int .u8 h.h.src.a4, .int .u8 h.h.src.a5, .int .u8 h.h.src.a6, .int .u8 h.h.src.a7, .int .u8 h.h.src.a8, .int .u8 h.h.src.a9, .int .u8 h.h.src.a10, .int .u8 h.h.src.a11, .int .u8 h.h.src.a12, .int .u8 h.h.src.a13, .int .u8 h.h.src.a14, .int .u8 h.h.src.a15, .int .i64 h.h.dst.v, .int .u8 h.h.dst.a0, .int .u8 h.h.dst.a1, .int .u8 h.h.dst.a2, .int .u8 h.h.dst.a3, .int .u8 h.h.dst.a4, .int .u8 h.h.dst.a5, .int .u8 h.h.dst.a6, .int .u8 h.h.dst.a7, .int .u8 h.h.dst.a8, .int .u8 h.h.dst.a9, .int .u8 h.h.dst.a10, .int .u8 h.h.dst.a11, .int .u8 h.h.dst.a12, .int .u8 h.h.dst.a13, .int .u8 h.h.dst.a14, .int .u8 h.h.dst.a15, .slice h.h.exts.A h.h.exts.n h.h.exts.k, .bool h.h.frag.has, .bool h.h.frag.more, .int .i64 h.h.frag.id, .int .i64 h.h.frag.off, .int .i64 h.h.next, .slice h.h.data.A h.h.data.n h.h.data.k, .int .i64 h.n]
def Op7V.ex (K : Op7V → Prop) : Prop := ∃ kind : Int, ∃ (bA : Option Addr) (bn bk : Nat), ∃ h_cls : Int, ∃ h_flow : Int, ∃ h_hop : Int, ∃ h_src_v : Int, ∃ h_src_a0 : Int, ∃ h_src_a1 : Int, ∃ h_src_a2 : Int, ∃ h_src_a3 : Int, ∃ h_src_a4 : Int, ∃ h_src_a5 : Int, ∃ h_src_a6 : Int, ∃ h_src_a7 : Int, ∃ h_src_a8 : Int, ∃ h_src_a9 : Int, ∃ h_src_a10 : Int, ∃ h_src_a11 : Int, ∃ h_src_a12 : Int, ∃ h_src_a13 : Int, ∃ h_src_a14 : Int, ∃ h_src_a15 : Int, ∃ h_dst_v : Int, ∃ h_dst_a0 : Int, ∃ h_dst_a1 : Int, ∃ h_dst_a2 : Int, ∃ h_dst_a3 : Int, ∃ h_dst_a4 : Int, ∃ h_dst_a5 : Int, ∃ h_dst_a6 : Int, ∃ h_dst_a7 : Int, ∃ h_dst_a8 : Int, ∃ h_dst_a9 : Int, ∃ h_dst_a10 : Int, ∃ h_dst_a11 : Int, ∃ h_dst_a12 : Int, ∃ h_dst_a13 : Int, ∃ h_dst_a14 : Int, ∃ h_dst_a15 : Int, ∃ (h_extsA : Option Addr) (h_extsn h_extsk : Nat), ∃ h_frag_has : Bool, ∃ h_frag_more : Bool, ∃ h_frag_id : Int, ∃ h_frag_off : Int, ∃ h_next : Int, ∃ (h_dataA : Option Addr) (h_datan h_datak : Nat), ∃ n : Int, K ⟨kind, ⟨bA, bn, bk⟩, ⟨h_cls, h_flow, h_hop, ⟨h_src_v, h_src_a0, h_src_a1, h_src_a2, h_src_a3, h_src_a4, h_src_a5, h_src_a6, h_src_a7, h_src_a8, h_src_a9, h_src_a10, h_src_a11, h_src_a12, h_src_a13, h_src_a14, h_src_a15⟩, ⟨h_dst_v, h_dst_a0, h_dst_a1, h_dst_a2, h_dst_a3, h_dst_a4, h_dst_a5, h_dst_a6, h_dst_a7, h_dst_a8, h_dst_a9, h_dst_a10, h_dst_a11, h_dst_a12, h_dst_a13, h_dst_a14, h_dst_a15⟩, ⟨h_extsA, h_extsn, h_extsk⟩, ⟨h_frag_has, h_frag_more, h_frag_id, h_frag_off⟩, h_next, ⟨h_dataA, h_datan, h_datak⟩⟩, n⟩
theorem Op7V.of {K : Op7V → Prop} (h : Op7V) (hK : K h) : Op7V.ex K := by unfold Op7V.ex; exact ⟨_, _, _, _, _, _, _, _, _, _, _, _, _, _, _, _, _, _, _, _, _, _, _, _, _, _, _, _, _, _, _, _, _, _, _, _, _, _, _, _, _, _, _, _, _, _, _, _, _, _, _, _, _, hK⟩
def Op7V.z : Op7V := ⟨0, ⟨none, 0, 0⟩, ⟨0, 0, 0, ⟨0, 0, 0, 0, 0, 0, 0, 0, 0, 0, 0, 0, 0, 0, 0, 0, 0⟩, ⟨0, 0, 0, 0, 0, 0, 0, 0, 0, 0, 0, 0, 0, 0, 0, 0, 0⟩, ⟨none, 0, 0⟩, ⟨false, false, 0, 0⟩, 0, ⟨none, 0, 0⟩⟩, 0⟩
theorem Op7V.one (h : Op7V) : ∀ v ∈ h.cells, v.oneCell' = true := List.all_eq_true.1 (rfl : h.cells.all Value.oneCell' = true)
structure Op13V where
  six : Bool
  h4 : Ip4V
  h6 : Ip6V
  mtu : Int
  id : Int
def Op13V.cells (h : Op13V) : List Value := [.bool h.six, .int .i64 h.h4.tos, .int .i64 h.h4.id, .bool h.h4.df, .bool h.h4.mf, .int .i64 h.h4.off, .int .i64 h.h4.ttl, .int .i64 h.h4.proto, .int .i64 h.h4.src.v, .int .u8 h.h4.src.a0, .int .u8 h.h4.src.a1, .int .u8 h.h4.src.a2, .int .u8 h.h4.src.a3, .int .u8 h.h4.src.a4, .int .u8 h.h4.src.a5, .int .u8 h.h4.src.a6, .int .u8 h.h4.src.a7, .int .u8 h.h4.src.a8, .int .u8 h.h4.src.a9, .int .u8 h.h4.src.a10, .int .u8 h.h4.src.a11, .int .u8 h.h4.src.a12, .int .u8 h.h4.src.a13, .int .u8 h.h4.src.a14, .int .u8 h.h4.src.a15, .int .i64 h.h4.dst.v, .int .u8 h.h4.dst.a0, .int .u8 h.h4.dst.a1, .int .u8 h.h4.dst.a2, .int .u8 h.h4.dst.a3, .int .u8 h.h4.dst.a4, .int .u8 h.h4.dst.a5, .int .u8 h.h4.dst.a6, .int .u8 h.h4.dst.a7, .int .u8 h.h4.dst.a8, .int .u8 h.h4.dst.a9, .int .u8 h.h4.dst.a10, .int .u8 h.h4.dst.a11, .int .u8 h.h4.dst.a12, .int .u8 h.h4.dst.a13, .int .u8 h.h4.dst.a14, .int .u8 h.h4.dst.a15, .slice h.h4.opts.A h.h4.opts.n h.h4.opts.k, .slice h.h4.data.A h.h4.data.n h.h4.data.k, .int .i64 h.h6.cls, .int .i64 h.h6.flow, .int .i64 h.h6.hop, .int .i64 h.h6.src.v, .int .u8 h.h6.src.a0, .int .u8 h.h6.src.a1, .int .u8 h.h6.src.a2, .int .u8 h.h6.src.a3, .int .u8 h.h6.src.a4, .int .u8 h.h6.src.a5, .int .u8 h.h6.src.a6, .int .u8 h.h6.src.a7, .int .u8 h.h6.src.a8, .int .u8 h.h6.src.a9, .int .u8 h.h6.src.a10, .int .u8 h.h6.src.a11, .int .u8 h.h6.src.a12, .int .u8 h.h6.src.a13, .int .u8 h.h6.src.a14, .int .u8 h.h6.src.a15, .int .i64 h.h6.dst.v, .int .u8 h.h6.dst.a0, .int .u8 h.h6.dst.a1, .int .u8 h.h6.dst.a2, .int .u8 h.h6.dst.a3, .int .u8 h.h6.dst.a4, .int .u8 h.h6.dst.a5, .int .u8 h.h6.dst.a6, .int .u8 h.h6.dst.a7, .int .u8 h.h6.dst.a8, .int .u8 h.h6.dst.a9, .int .u8 h.h6.dst.a10, .int .u8 h.h6.dst.a11, .int .u8 h.h6.dst.a12, .int .u8 h.h6.dst.a13, .int .u8 h.h6.dst.a14, .int .u8 h.h6.dst.a15, .slice h.h6.exts.A h.h6.exts.n h.h6.exts.k, .bool h.h6.frag.has, .bool h.h6.frag.more, .int .i64 h.h6.frag.id, .int .i64 h.h6.frag.off, .int .i64 h.h6.next, .slice h.h6.data.A h.h6.data.n h.h6.data.k, .int .i64 h.mtu, .int .i64 h.id]
def Op13V.val (h : Op13V) : Value := .agg #[.bool h.six, .int .i64 h.h4.tos, .int .i64 h.h4.id, .bool h.h4.df, .bool h.h4.mf, .int .i64 h.h4.off, .int .i64 h.h4.ttl, .int .i64 h.h4.proto, .int .i64 h.h4.src.v, .int .u8 h.h4.src.a0, .int .u8 h.h4.src.a1, .int .u8 h.h4.src.a2, .int .u8 h.h4.src.a3, .int .u8 h.h4.src.a4, .int .u8 h.h4.src.a5, .int .u8 h.h4.src.a6, .int .u8 h.h4.src.a7, .int .u8 h.h4.src.a8, .int .u8 h.h4.src.a9, .int .u8 h.h4.src.a10, .int .u8 h.h4.src.a11, .int .u8 h.h4.src.a12, .int .u8 h.h4.src.a13, .int .u8 h.h4.src.a14, .int .u8 h.h4.src.a15, .int .i64 h.h4.dst.v, .int .u8 h.h4.dst.a0, .int .u8 h.h4.dst.a1, .int .u8 h.h4.dst.a2, .int .u8 h.h4.dst.a3, .int .u8 h.h4.dst.a4, .int .u8 h.h4.dst.a5, .int .u8 h.h4.dst.a6, .int .u8 h.h4.dst.a7, .int .u8 h.h4.dst.a8, .int .u8 h.h4.dst.a9, .int .u8 h.h4.dst.a10, .int .u8 h.h4.dst.a11, .int .u8 h.h4.dst.a12, .int .u8 h.h4.dst.a13, .int .u8 h.h4.dst.a14, .int .u8 h.h4.dst.a15, .slice h.h4.opts.A h.h4.opts.n h.h4.opts.k, .slice h.h4.data.A h.h4.data.n h.h4.data.k, .int .i64 h.h6.cls, .int .i64 h.h6.flow, .int .i64 h.h6.hop, .int .i64 h.h6.src.v, .int .u8 h.h6.src.a0, .int .u8 h.h6.src.a1, .int .u8 h.h6.src.a2, .int .u8 h.h6.src.a3, .int .u8 h.h6.src.a4, .int .u8 h.h6.src.a5, .int .u8 h.h6.src.a6, .int .u8 h.h6.src.a7, .int .u8 h.h6.src.a8, .int .u8 h.h6.src.a9, .int .u8 h.h6.src.a10, .int .u8 h.h6.src.a11, .int .u8 h.h6.src.a12, .int .u8 h.h6.src.a13, .int .u8 h.h6.src.a14, .int .u8 h.h6.src.a15, .int .i64 h.h6.dst.v, .int .u8 h.h6.dst.a0, .int .u8 h.h6.dst.a1, .int .u8 h.h6.dst.a2, .int .u8 h.h6.dst.a3, .int .u8 h.h6.dst.a4, .int .u8 h.h6.dst.a5, .int .u8 h.h6.dst.a6, .int .u8 h.h6.dst.a7, .int .u8 h.h6.dst.a8, .int .u8 h.h6.dst.a9, .int .u8 h.h6.dst.a10, .int .u8 h.h6.dst.a11, .int .u8 h.h6.dst.a12, .int .u8 h.h6.dst.a13, .int .u8 h.h6.dst.a14, .int .u8 h.h6.dst.a15, .slice h.h6.exts.A h.h6.exts.n h.h6.exts.k, .bool h.h6.frag.has, .bool h.h6.frag.more, .int .i64 h.h6.frag.id, .int .i64 h.h6.frag.off, .int .i64 h.h6.next, .slice h.h6.data.A h.h6.data.n h.h6.data.k, .int .i64 h.mtu, .int .i64 h.id]
def Op13V.ex (K : Op13V → Prop) : Prop := ∃ six : Bool, ∃ h4_tos : Int, ∃ h4_id : Int, ∃ h4_df : Bool, ∃ h4_mf : Bool, ∃ h4_off : Int, ∃ h4_ttl : Int, ∃ h4_proto : Int, ∃ h4_src_v : Int, ∃ h4_src_a0 : Int, ∃ h4_src_a1 : Int, ∃ h4_src_a2 : Int, ∃ h4_src_a3 : Int, ∃ h4_src_a4 : Int, ∃ h4_src_a5 : Int, ∃ h4_src_a6 : Int, ∃ h4_src_a7 : Int, ∃ h4_src_a8 : Int, ∃ h4_src_a9 : Int, ∃ h4_src_a10 : Int, ∃ h4_src_a11 : Int, ∃ h4_src_a12 : Int, ∃ h4_src_a13 : Int, ∃ h4_src_a14 : Int, ∃ h4_src_a15 : Int, ∃ h4_dst_v : Int, ∃ h4_dst_a0 : Int, ∃ h4_dst_a1 : Int, ∃ h4_dst_a2 : Int, ∃ h4_dst_a3 : Int, ∃ h4_dst_a4 : Int, ∃ h4_dst_a5 : Int, ∃ h4_dst_a6 : Int, ∃ h4_dst_a7 : Int, ∃ h4_dst_a8 : Int, ∃ h4_dst_a9 : Int, ∃ h4_dst_a10 : Int, ∃ h4_dst_a11 : Int, ∃ h4_dst_a12 : Int, ∃ h4_dst_a13 : Int, ∃ h4_dst_a14 : Int, ∃ h4_dst_a15 : Int, ∃ (h4_optsA : Option Addr) (h4_optsn h4_optsk : Nat), ∃ (h4_dataA : Option Addr) (h4_datan h4_datak : Nat), ∃ h6_cls : Int, ∃ h6_flow : Int, ∃ h6_hop : Int, ∃ h6_src_v : Int, ∃ h6_src_a0 : Int, ∃ h6_src_a1 : Int, ∃ h6_src_a2 : Int, ∃ h6_src_a3 : Int, ∃ h6_src_a4 : Int, ∃ h6_src_a5 : Int, ∃ h6_src_a6 : Int, ∃ h6_src_a7 : Int, ∃ h6_src_a8 : Int, ∃ h6_src_a9 : Int, ∃ h6_src_a10 : Int, ∃ h6_src_a11 : Int, ∃ h6_src_a12 : Int, ∃ h6_src_a13 : Int, ∃ h6_src_a14 : Int, ∃ h6_src_a15 : Int, ∃ h6_dst_v : Int, ∃ h6_dst_a0 : Int, ∃ h6_dst_a1 : Int, ∃ h6_dst_a2 : Int, ∃ h6_dst_a3 : Int, ∃ h6_dst_a4 : Int, ∃ h6_dst_a5 : Int, ∃ h6_dst_a6 : Int, ∃ h6_dst_a7 : Int, ∃ h6_dst_a8 : Int, ∃ h6_dst_a9 : Int, ∃ h6_dst_a10 : Int, ∃ h6_dst_a11 : Int, ∃ h6_dst_a12 : Int, ∃ h6_dst_a13 : Int, ∃ h6_dst_a14 : Int, ∃ h6_dst_a15 : Int, ∃ (h6_extsA : Option Addr) (h6_extsn h6_extsk : Nat), ∃ h6_frag_has : Bool, ∃ h6_frag_more : Bool, ∃ h6_frag_id : Int, ∃ h6_frag_off : Int, ∃ h6_next : Int, ∃ (h6_dataA : Option Addr) (h6_datan h6_datak : Nat), ∃ mtu : Int, ∃ id : Int, K ⟨six, ⟨h4_tos, h4_id, h4_df, h4_mf, h4_off, h4_ttl, h4_proto, ⟨h4_src_v, h4_src_a0, h4_src_a1, h4_src_a2, h4_src_a3, h4_src_a4, h4_src_a5, h4_src_a6, h4_src_a7, h4_src_a8, h4_src_a9, h4_src_a10, h4_src_a11, h4_src_a12, h4_src_a13, h4_src_a14, h4_src_a15⟩, ⟨h4_dst_v, h4_dst_a0, h4_dst_a1, h4_dst_a2, h4_dst_a3, h4_dst_a4, h4_dst_a5, h4_dst_a6, h4_dst_a7, h4_dst_a8, h4_dst_a9, h4_dst_a10, h4_dst_a11, h4_dst_a12, h4_dst_a13, h4_dst_a14, h4_dst_a15⟩, ⟨h4_optsA, h4_optsn, h4_optsk⟩, ⟨h4_dataA, h4_datan, h4_datak⟩⟩, ⟨h6_cls, h6_flow, h6_hop, ⟨h6_src_v, h6_src_a0, h6_src_a1, h6_src_a2, h6_src_a3, h6_src_a4, h6_src_a5, h6_src_a6, h6_src_a7, h6_src_a8, h6_src_a9, h6_src_a10, h6_src_a11, h6_src_a12, h6_src_a13, h6_src_a14, h6_src_a15⟩, ⟨h6_dst_v, h6_dst_a0, h6_dst_a1, h6_dst_a2, h6_dst_a3, h6_dst_a4, h6_dst_a5, h6_dst_a6, h6_dst_a7, h6_dst_a8, h6_dst_a9, h6_dst_a10, h6_dst_a11, h6_dst_a12, h6_dst_a13, h6_dst_a14, h6_dst_a15⟩, ⟨h6_extsA, h6_extsn, h6_extsk⟩, ⟨h6_frag_has, h6_frag_more, h6_frag_id, h6_frag_off⟩, h6_next, ⟨h6_dataA, h6_datan, h6_datak⟩⟩, mtu, id⟩
theorem Op13V.of {K : Op13V → Prop} (h : Op13V) (hK : K h) : Op13V.ex K := by unfold Op13V.ex; exact ⟨_, _, _, _, _, _, _, _, _, _, _, _, _, _, _, _, _, _, _, _, _, _, _, _, _, _, _, _, _, _, _, _, _, _, _, _, _, _, _, _, _, _, _, _, _, _, _, _, _, _, _, _, _, _, _, _, _, _, _, _, _, _, _, _, _, _, _, _, _, _, _, _, _, _, _, _, _, _, _, _, _, _, _, _, _, _, _, _, _, _, _, _, _, _, _, _, _, _, hK⟩
def Op13V.z : Op13V := ⟨false, ⟨0, 0, false, false, 0, 0, 0, ⟨0, 0, 0, 0, 0, 0, 0, 0, 0, 0, 0, 0, 0, 0, 0, 0, 0⟩, ⟨0, 0, 0, 0, 0, 0, 0, 0, 0, 0, 0, 0, 0, 0, 0, 0, 0⟩, ⟨none, 0, 0⟩, ⟨none, 0, 0⟩⟩, ⟨0, 0, 0, ⟨0, 0, 0, 0, 0, 0, 0, 0, 0, 0, 0, 0, 0, 0, 0, 0, 0⟩, ⟨0, 0, 0, 0, 0, 0, 0, 0, 0, 0, 0, 0, 0, 0, 0, 0, 0⟩, ⟨none, 0, 0⟩, ⟨false, false, 0, 0⟩, 0, ⟨none, 0, 0⟩⟩, 0, 0⟩
theorem Op13V.one (h : Op13V) : ∀ v ∈ h.cells, v.oneCell' = true := List.all_eq_true.1 (rfl : h.cells.all Value.oneCell' = true)
structure TurnV where
  kind : Int
  at' : Int
  by' : Int
def TurnV.cells (h : TurnV) : List Value := [.int .i64 h.kind, .int .i64 h.at', .int .i64 h.by']
def TurnV.val (h : TurnV) : Value := .agg #[.int .i64 h.kind, .int .i64 h.at', .int .i64 h.by']
def TurnV.ex (K : TurnV → Prop) : Prop := ∃ kind : Int, ∃ at_ : Int, ∃ by_ : Int, K ⟨kind, at_, by_⟩
theorem TurnV.of {K : TurnV → Prop} (h : TurnV) (hK : K h) : TurnV.ex K := by unfold TurnV.ex; exact ⟨_, _, _, hK⟩
def TurnV.z : TurnV := ⟨0, 0, 0⟩
theorem TurnV.one (h : TurnV) : ∀ v ∈ h.cells, v.oneCell' = true := List.all_eq_true.1 (rfl : h.cells.all Value.oneCell' = true)
def TurnV.beq (a b : TurnV) : Bool := ((decide (a.kind = b.kind)) && ((decide (a.at' = b.at')) && ((decide (a.by' = b.by')) && true)))
end Go.Eng
/- Memory in parts: what is known of each, and that they are apart. Each step of a program is one step of the whole. It speaks of any program. -/
namespace Go.Eng
open Go Go.RowKit

/-- A part of memory (its blocks) and what is known of it, which hangs on these blocks alone. -/
structure Fct where
  R : Nat → Prop
  φ : World → Prop
  st : ∀ (M : Nat → Prop) (w w' : World), φ w → (∀ k, R k → k < w.heap.size) → Mod M w w' → (∀ k, R k → ¬ M k) → φ w'
def Fct.old (w0 : World) : Fct := ⟨fun k => k < w0.heap.size, fun w => Ext w0 w, fun _ _ _ h _ hm hn => h.trans' hm fun i hi hM => (hn i hi hM).elim⟩
def Fct.blk (g : Nat) (t : TypeId) (cs : List Value) : Fct := ⟨fun k => k = g, fun w => Blk w g t cs, fun _ _ _ h _ hm hn => h.mod hm (hn g rfl)⟩
def Fct.own (base e size : Nat) (v : Value) (n : Nat) (xs : List Value) : Fct := ⟨fun k => v.ownBlock = some k, fun w => w.ownsRow base e size v n xs, fun _ _ _ h _ hm hn => own_mod h hm fun g hg => hn g hg⟩
/-- All that was there but for M's blocks, as it was. -/
def Fct.rest (w0 : World) (M : Nat → Prop) : Fct := ⟨fun k => k < w0.heap.size ∧ ¬ M k, fun w => Mod M w0 w, fun _ _ _ h _ hm hn => h.trans' hm fun i hi hM => Classical.byContradiction fun hne => hn i ⟨hi, hne⟩ hM⟩
structure Sep (Γ : List Fct) (w : World) : Prop where
  yes : ∀ (i : Nat) f, Γ[i]? = some f → f.φ w
  lt : ∀ (i : Nat) f, Γ[i]? = some f → ∀ k, f.R k → k < w.heap.size
  apart : ∀ (i j : Nat) f g, i ≠ j → Γ[i]? = some f → Γ[j]? = some g → ∀ k, f.R k → g.R k → False
section
variable {w0 w w' : World} {Γ : List Fct} {M : Nat → Prop} {f f' : Fct}
theorem idx_snoc {α : Type} {l : List α} {x y : α} {i : Nat} (h : (l ++ [x])[i]? = some y) : (i < l.length ∧ l[i]? = some y) ∨ (i = l.length ∧ y = x) := by
  rcases Nat.lt_or_ge i l.length with hi | hi
  · rw [List.getElem?_append_left hi] at h; exact .inl ⟨hi, h⟩
  · rw [List.getElem?_append_right hi] at h
    have : i - l.length = 0 := by
      rcases Nat.eq_zero_or_pos (i - l.length) with e | e
      · exact e
      · rw [List.getElem?_eq_none (by simp; omega)] at h; cases h
    rw [this] at h
    exact .inr ⟨by omega, by simpa using h.symm⟩
theorem idx_set {α : Type} {l : List α} {x y : α} {i j : Nat} (h : (l.set i x)[j]? = some y) : (j = i ∧ y = x) ∨ (j ≠ i ∧ l[j]? = some y) := by
  rw [List.getElem?_set] at h
  by_cases e : i = j
  · subst e
    rw [if_pos rfl] at h
    split at h
    · injection h with h; exact .inl ⟨rfl, h.symm⟩
    · cases h
  · rw [if_neg e] at h; exact .inr ⟨fun x => e x.symm, h⟩
/-- What leaves all old blocks alone. -/
theorem Sep.ext (H : Sep Γ w) (h : Ext w w') : Sep Γ w' :=
  ⟨fun i f hf => f.st None w w' (H.yes i f hf) (H.lt i f hf) h fun _ _ => id, fun i f hf k hk => Nat.lt_of_lt_of_le (H.lt i f hf k hk) h.size, H.apart⟩
/-- New memory. -/
theorem Sep.push (H : Sep Γ w) (h : Ext w w') (f : Fct) (hφ : f.φ w') (hR : ∀ k, f.R k → w.heap.size ≤ k ∧ k < w'.heap.size) : Sep (Γ ++ [f]) w' := by
  have H' := H.ext h
  refine ⟨fun i g hg => ?_, fun i g hg k hk => ?_, fun i j a b hij ha hb k hka hkb => ?_⟩
  · rcases idx_snoc hg with ⟨_, hg⟩ | ⟨_, rfl⟩
    · exact H'.yes i g hg
    · exact hφ
  · rcases idx_snoc hg with ⟨_, hg⟩ | ⟨_, rfl⟩
    · exact H'.lt i g hg k hk
    · exact (hR k hk).2
  · rcases idx_snoc ha with ⟨_, ha'⟩ | ⟨hi, ea⟩ <;> rcases idx_snoc hb with ⟨_, hb'⟩ | ⟨hj, eb⟩
    · exact H.apart i j a b hij ha' hb' k hka hkb
    · subst eb; have := H.lt i a ha' k hka; have := (hR k hkb).1; omega
    · subst ea; have := H.lt j b hb' k hkb; have := (hR k hka).1; omega
    · omega
/-- One part is changed. -/
theorem Sep.mod (H : Sep Γ w) (i : Nat) (hi : Γ[i]? = some f) (h : Mod M w w') (hM : ∀ k, k < w.heap.size → M k → f.R k) (f' : Fct) (hφ : f'.φ w') (hR : ∀ k, f'.R k → f.R k ∨ (w.heap.size ≤ k ∧ k < w'.heap.size)) : Sep (Γ.set i f') w' := by
  have keep : ∀ j g, j ≠ i → Γ[j]? = some g → g.φ w' := fun j g hj hg =>
    g.st M w w' (H.yes j g hg) (H.lt j g hg) h fun k hk hMk => H.apart j i g f hj hg hi k hk (hM k (H.lt j g hg k hk) hMk)
  refine ⟨fun j g hg => ?_, fun j g hg k hk => ?_, fun j l a b hjl ha hb k hka hkb => ?_⟩
  · rcases idx_set hg with ⟨rfl, rfl⟩ | ⟨hj, hg⟩
    · exact hφ
    · exact keep j g hj hg
  · rcases idx_set hg with ⟨rfl, rfl⟩ | ⟨hj, hg⟩
    · rcases hR k hk with e | e
      · exact Nat.lt_of_lt_of_le (H.lt _ f hi k e) h.size
      · exact e.2
    · exact Nat.lt_of_lt_of_le (H.lt j g hg k hk) h.size
  · rcases idx_set ha with ⟨ej, ea⟩ | ⟨hj, ha'⟩ <;> rcases idx_set hb with ⟨el, eb⟩ | ⟨hl, hb'⟩
    · omega
    · subst ea
      rcases hR k hka with e | e
      · exact H.apart i l f b (fun e => hl e.symm) hi hb' k e hkb
      · have := H.lt l b hb' k hkb; omega
    · subst eb
      rcases hR k hkb with e | e
      · exact H.apart j i a f hj ha' hi k hka e
      · have := H.lt j a ha' k hka; omega
    · exact H.apart j l a b hjl ha' hb' k hka hkb
theorem Sep.take (H : Sep Γ w) (n : Nat) : Sep (Γ.take n) w := by
  have sub : ∀ (i : Nat) f, (Γ.take n)[i]? = some f → Γ[i]? = some f := fun i f h => by
    rw [List.getElem?_take] at h
    split at h
    · exact h
    · cases h
  exact ⟨fun i f h => H.yes i f (sub i f h), fun i f h => H.lt i f (sub i f h), fun i j a b hij ha hb => H.apart i j a b hij (sub i a ha) (sub j b hb)⟩
theorem Sep.del (H : Sep Γ w) (n : Nat) : Sep (Γ.eraseIdx n) w := by
  have sub : ∀ (i : Nat) f, (Γ.eraseIdx n)[i]? = some f → Γ[if i < n then i else i + 1]? = some f := fun i f h => by
    rw [List.getElem?_eraseIdx] at h
    split at h
    · rename_i hi; rw [if_pos hi]; exact h
    · rename_i hi; rw [if_neg hi]; exact h
  exact ⟨fun i f h => H.yes _ f (sub i f h), fun i f h => H.lt _ f (sub i f h), fun i j a b hij ha hb => H.apart _ _ a b (by split <;> split <;> omega) (sub i a ha) (sub j b hb)⟩
theorem Sep.blk {g : Nat} {t : TypeId} {cs : List Value} (H : Sep Γ w) (i : Nat) (hi : Γ[i]? = some (Fct.blk g t cs)) : Blk w g t cs := H.yes i _ hi
theorem Sep.own {b e s n : Nat} {v : Value} {xs : List Value} (H : Sep Γ w) (i : Nat) (hi : Γ[i]? = some (Fct.own b e s v n xs)) : w.ownsRow b e s v n xs := H.yes i _ hi
theorem Sep.cells {b e s n c : Nat} {A : Option Addr} {xs : List Value} (H : Sep Γ w) (i : Nat) (hi : Γ[i]? = some (Fct.own b e s (.slice A n c) n xs)) : Cells w A xs := own_cells (H.own i hi)
theorem Sep.at {g : Nat} {t : TypeId} {cs : List Value} (H : Sep Γ w) (i : Nat) (hi : Γ[i]? = some (Fct.blk g t cs)) : CellsAt w ⟨g, 0, none⟩ 0 cs := CellsAt.blk (H.blk i hi)
theorem Sep.cell {g : Nat} {t : TypeId} {cs : List Value} (H : Sep Γ w) (i : Nat) (hi : Γ[i]? = some (Fct.blk g t cs)) (j : Nat) {v : Value} (hv : cs[j]? = some v) : w.cell? ⟨g, j, none⟩ = some v := ((H.blk i hi).cell j).trans hv
/-- A nil row. -/
theorem Sep.nil (H : Sep Γ w) (b e s : Nat) : Sep (Γ ++ [Fct.own b e s (.slice none 0 0) 0 []]) w :=
  H.push (Mod.refl _ _) _ (World.ownsRow_nil _ _ _ _) fun k hk => by simp [Fct.own, Value.ownBlock] at hk
/-- A row that a call hands back. -/
theorem Sep.pushOwn {b e s n : Nat} {v : Value} {xs : List Value} (H : Sep Γ w) (h : Ext w w') (ho : w'.ownsRow b e s v n xs) (hb : w.heap.size ≤ b) : Sep (Γ ++ [Fct.own b e s v n xs]) w' :=
  H.push h _ ho fun k hk => ⟨Nat.le_trans hb (ho.lt k hk).1, (ho.lt k hk).2⟩
theorem Sep.pushBlk {g : Nat} {t : TypeId} {cs : List Value} (H : Sep Γ w) (h : Ext w w') (hb : Blk w' g t cs) (hg : w.heap.size ≤ g) : Sep (Γ ++ [Fct.blk g t cs]) w' :=
  H.push h _ hb fun k hk => by cases hk; exact ⟨hg, hb.lt⟩
/-! ### Calls that change one part, or make one -/
theorem Sep.begin {M : Nat → Prop} {f : Fct} (hφ : f.φ w0) (hM : ∀ k, f.R k → M k) (hlt : ∀ k, f.R k → k < w0.heap.size) : Sep [Fct.rest w0 M, f] w0 := by
  have two : ∀ (i : Nat) a, ([Fct.rest w0 M, f] : List Fct)[i]? = some a → (i = 0 ∧ a = Fct.rest w0 M) ∨ (i = 1 ∧ a = f) := fun i a h => by
    match i with
    | 0 => exact .inl ⟨rfl, by simpa using h.symm⟩
    | 1 => exact .inr ⟨rfl, by simpa using h.symm⟩
    | i + 2 => simp at h
  refine ⟨fun i a h => ?_, fun i a h k hk => ?_, fun i j a c hij ha hc k hka hkc => ?_⟩
  · rcases two i a h with ⟨_, rfl⟩ | ⟨_, rfl⟩
    · exact Mod.refl _ _
    · exact hφ
  · rcases two i a h with ⟨_, rfl⟩ | ⟨_, rfl⟩
    · exact hk.1
    · exact hlt k hk
  · rcases two i a ha with ⟨hi, rfl⟩ | ⟨hi, rfl⟩ <;> rcases two j c hc with ⟨hj, rfl⟩ | ⟨hj, rfl⟩
    · omega
    · exact hka.2 (hM k hkc)
    · exact hkc.2 (hM k hka)
    · omega
theorem Sep.restOf {M : Nat → Prop} (H : Sep Γ w) (i : Nat) (hi : Γ[i]? = some (Fct.rest w0 M)) : Mod M w0 w := H.yes i _ hi
theorem Sep.start0 (w0 : World) : Sep [Fct.rest w0 None] w0 := by
  have one : ∀ (i : Nat) f, ([Fct.rest w0 None] : List Fct)[i]? = some f → i = 0 ∧ f = Fct.rest w0 None := fun i f h => by
    rcases i with _ | i
    · exact ⟨rfl, by simpa using h.symm⟩
    · simp at h
  refine ⟨fun i f h => ?_, fun i f h k hk => ?_, fun i j f g hij hf hg => ?_⟩
  · obtain ⟨_, rfl⟩ := one i f h; exact Mod.refl _ _
  · obtain ⟨_, rfl⟩ := one i f h; exact hk.1
  · have := (one i f hf).1; have := (one j g hg).1; omega
/-- A call that turns one part into another. -/
theorem Sep.call {f f' : Fct} {M : Nat → Prop} (H : Sep Γ w) (i : Nat) (hi : Γ[i]? = some f) (hM : ∀ k, M k → f.R k) (h : Sep [Fct.rest w M, f'] w') : Sep (Γ.set i f') w' := by
  refine H.mod i hi (h.restOf 0 rfl) (fun k _ e => hM k e) f' (h.yes 1 f' rfl) fun k hk => ?_
  by_cases hlt : k < w.heap.size
  · refine .inl (Classical.byContradiction fun hne => h.apart 0 1 _ f' (by decide) rfl rfl k ⟨hlt, fun e => hne (hM k e)⟩ hk)
  · exact .inr ⟨by omega, h.lt 1 f' rfl k hk⟩
/-- A call that makes a part. -/
theorem Sep.made {f' : Fct} (H : Sep Γ w) (h : Sep [Fct.rest w None, f'] w') : Sep (Γ ++ [f']) w' :=
  H.push (h.restOf 0 rfl) f' (h.yes 1 f' rfl) fun k hk => ⟨Nat.le_of_not_lt fun hlt => h.apart 0 1 _ f' (by decide) rfl rfl k ⟨hlt, id⟩ hk, h.lt 1 f' rfl k hk⟩
/-- Cells that read so: in the memory that was there at w0, or in newer memory of their own. -/
def Fct.seen (w0 : World) (A : Option Addr) (xs : List Value) : Fct :=
  ⟨fun k => xs ≠ [] ∧ w0.heap.size ≤ k ∧ ∃ a, A = some a ∧ a.block = k,
   fun w => xs = [] ∨ Cells w0 A xs ∨ ((∀ a, A = some a → w0.heap.size ≤ a.block) ∧ Cells w A xs),
   fun M w w' h hlt hm hn => by
    rcases h with h | h | ⟨h1, h2⟩
    · exact .inl h
    · exact .inr (.inl h)
    · by_cases hx : xs = []
      · exact .inl hx
      · exact .inr (.inr ⟨h1, h2.mod hm fun a ha _ => hn _ ⟨hx, h1 a ha, a, ha, rfl⟩⟩)⟩
theorem Sep.seen {A : Option Addr} {xs : List Value} (H : Sep Γ w) (hE : Ext w0 w) (i : Nat) (hi : Γ[i]? = some (Fct.seen w0 A xs)) : Cells w A xs := by
  rcases H.yes i _ hi with h | h | ⟨_, h⟩
  · rw [h]; exact Cells.nil _ _
  · exact h.ext hE
  · exact h
theorem Sep.weaken {f f' : Fct} (H : Sep Γ w) (i : Nat) (hi : Γ[i]? = some f) (hφ : f'.φ w) (hR : ∀ k, f'.R k → f.R k) : Sep (Γ.set i f') w :=
  H.mod i hi (Mod.refl None _) (fun _ _ e => e.elim) f' hφ fun k hk => .inl (hR k hk)
/-- What a call made, left alone since. -/
def Fct.span (w1 w2 : World) : Fct := ⟨fun k => w1.heap.size ≤ k ∧ k < w2.heap.size, fun w => ∃ M, Mod M w2 w ∧ ∀ j, w1.heap.size ≤ j → ¬ M j, fun M' w w' ⟨M, hM, hn⟩ _ hm hR =>
  ⟨fun k => M k ∨ (M' k ∧ k < w1.heap.size), (hM.mono fun _ _ e => .inl e).trans' hm fun i hi hMi => by
    by_cases hlt : i < w1.heap.size
    · exact .inr ⟨hMi, hlt⟩
    · exact absurd hMi (hR i ⟨by omega, hi⟩), fun j hj h => h.elim (hn j hj) fun h => by omega⟩⟩
theorem Sep.pushSpan (H : Sep Γ w) (h : Ext w w') : Sep (Γ ++ [Fct.span w w']) w' :=
  H.push h _ ⟨None, Mod.refl _ _, fun _ _ => id⟩ fun _ hk => hk
theorem Sep.spanOf {w1 w2 : World} (H : Sep Γ w) (i : Nat) (hi : Γ[i]? = some (Fct.span w1 w2)) : ∃ M, Mod M w2 w ∧ ∀ j, w1.heap.size ≤ j → ¬ M j := H.yes i _ hi
theorem Sep.lower {b b' e s n : Nat} {v : Value} {xs : List Value} (H : Sep Γ w) (i : Nat) (hi : Γ[i]? = some (Fct.own b e s v n xs)) (h : b' ≤ b) : Sep (Γ.set i (Fct.own b' e s v n xs)) w :=
  H.weaken i hi (own_base (H.own i hi) h) fun _ h => h
theorem Sep.pushSeen {A : Option Addr} {xs : List Value} (H : Sep Γ w) (hc : Cells w0 A xs) : Sep (Γ ++ [Fct.seen w0 A xs]) w :=
  H.push (Mod.refl _ _) _ (.inr (.inl hc)) fun k ⟨hx, hk, a, ha, e⟩ => by
    obtain ⟨a', ha', _⟩ := hc.at (i := 0) (by rcases xs with _ | ⟨x, r⟩; exact absurd rfl hx; simp)
    rw [ha] at ha'; cases ha'
    have := hc.lt (by rcases xs with _ | ⟨x, r⟩; exact absurd rfl hx; simp) ha
    omega
theorem Sep.ownSeen {b e s n c : Nat} {A : Option Addr} {xs : List Value} (H : Sep Γ w) (i : Nat) (hi : Γ[i]? = some (Fct.own b e s (.slice A n c) n xs)) (hb : w0.heap.size ≤ b) : Sep (Γ.set i (Fct.seen w0 A xs)) w := by
  have ho := H.own i hi
  obtain ⟨_, _, hv, _, hform, hall⟩ := own_form ho
  injection hv with h1 h2 h3
  subst h1; subst h3
  have hblk : xs ≠ [] → ∃ g, A = some ⟨g, 0, none⟩ ∧ b ≤ g := fun hx => by
    rcases hform with h0 | ⟨g, hg, hbg, _⟩
    · have := ho.1; rw [h0, Nat.zero_mul] at this; exact absurd (List.eq_nil_of_length_eq_zero this) hx
    · exact ⟨g, hg, hbg⟩
  refine H.weaken i hi ?_ fun k ⟨hx, hk, a, ha, e⟩ => ?_
  · by_cases hx : xs = []
    · exact .inl hx
    · obtain ⟨g, hg, hbg⟩ := hblk hx
      exact .inr (.inr ⟨fun a ha => by rw [hg] at ha; cases ha; show w0.heap.size ≤ g; omega, own_cells ho⟩)
  · obtain ⟨g, hg, hbg⟩ := hblk hx
    rw [hg] at ha; cases ha
    subst e
    show (Value.slice A n c).ownBlock = some g
    rw [hg]; rfl
/-! ### Steps -/
theorem NewVC.sep (H : Sep Γ w) {cs : List Value} {t : TypeId} {F : Nat → World → Prop} (h : ∀ g w', Sep (Γ ++ [Fct.blk g t cs]) w' → F g w') : NewVC w (.cells cs.toArray t) F :=
  NewVC.blk fun g w' hg hz hE hb => h g w' (H.pushBlk hE hb (by omega))
theorem zeros_single (z : Value) : ∀ n, zeros [z] n = List.replicate n z
  | 0 => rfl
  | n + 1 => by simp [zeros, zeros_single z n, List.replicate_succ]
theorem MakeVC.sep (H : Sep Γ w) {e bytes : Nat} {z : Value} {l c : Int} {F : Nat → World → Prop} (h0 : 0 ≤ l) (h1 : l ≤ c) (h2 : bytes * c ≤ 281474976710656)
    (h : ∀ g w', Sep (Γ ++ [Fct.blk g e (List.replicate c.toNat z)]) w' → F g w') : MakeVC w e bytes [z] l c F :=
  ⟨h0, h1, h2, NewVC.blk fun g w' hg hz hE hb => h g w' (H.pushBlk hE (by rw [zeros_single] at hb; exact hb) (by omega))⟩
theorem SetVC.sep (H : Sep Γ w) (i : Nat) {g k : Nat} {t : TypeId} {cs : List Value} {v : Value} {F : World → Prop} (hi : Γ[i]? = some (Fct.blk g t cs)) (hk : k < cs.length)
    (h : ∀ w', Sep (Γ.set i (Fct.blk g t (cs.set k v))) w' → F w') : SetVC w ⟨g, k, none⟩ v F :=
  SetVC.blk (H.blk i hi) hk fun w' _hz hm hb => h w' (H.mod i hi hm (fun _ _ e => e) _ hb fun _ e => .inl e)
/-- A run of cells is written. -/
def splice (cs : List Value) (i : Nat) (vs : List Value) : List Value := cs.take i ++ (vs ++ cs.drop (i + vs.length))
theorem splice_step (cs : List Value) (i : Nat) (v : Value) (r : List Value) (h : i < cs.length) : splice (cs.set i v) (i + 1) r = splice cs i (v :: r) := by
  unfold splice
  rw [List.take_set, List.take_succ_eq_append_getElem h, List.set_append_right _ _ (by simp; omega)]
  have : (cs.take i).length = i := by simp; omega
  rw [this, Nat.sub_self, List.drop_set, if_pos (by omega)]
  simp [Nat.add_assoc, Nat.add_comm 1]
theorem Stores.blk {g : Nat} {t : TypeId} : ∀ {vs cs : List Value} {o i : Nat} {w : World} {F : World → Prop}, Blk w g t cs → (∀ v ∈ vs, v.oneCell' = true) → o + i + vs.length ≤ cs.length →
    (∀ w', w'.heap.size = w.heap.size → Mod (fun k => k = g) w w' → Blk w' g t (splice cs (o + i) vs) → F w') → Stores ⟨g, o, none⟩ i vs w F
  | [], cs, o, i, w, F, hb, _, _, h => h w rfl (Mod.refl _ _) (by unfold splice; simpa using hb)
  | v :: r, cs, o, i, w, F, hb, h1, hl, h => by
    simp only [Stores, h1 v (by simp), cond_true, addr_add]
    simp only [List.length_cons] at hl
    refine SetVC.blk hb (by omega) fun w' hz hm hb' => ?_
    refine Stores.blk hb' (fun u hu => h1 u (by simp [hu])) (by rw [List.length_set]; omega) fun w2 hz2 hm2 hb2 => ?_
    refine h w2 (by omega) (hm.trans hm2) ?_
    rw [show o + (i + 1) = (o + i) + 1 by omega, splice_step cs (o + i) v r (by omega)] at hb2
    exact hb2
theorem Stores.sep (H : Sep Γ w) (i : Nat) {g o : Nat} {t : TypeId} {cs vs cs' : List Value} {F : World → Prop} (hi : Γ[i]? = some (Fct.blk g t cs)) (h1 : ∀ v ∈ vs, v.oneCell' = true) (hl : o + vs.length ≤ cs.length) (he : splice cs o vs = cs')
    (h : ∀ w', Sep (Γ.set i (Fct.blk g t cs')) w' → F w') : Stores ⟨g, o, none⟩ 0 vs w F :=
  Stores.blk (H.blk i hi) h1 (by omega) fun w' hz hm hb => h w' (H.mod i hi hm (fun _ _ e => e) _ (by rw [Nat.add_zero, he] at hb; exact hb) fun _ e => .inl e)
/-- All cells of a block. -/
theorem splice_all {cs vs : List Value} (h : vs.length = cs.length) : splice cs 0 vs = vs := by
  unfold splice; simp [h]
theorem DrawVC.sep (H : Sep Γ w) {B : (World → Prop) → World → Prop} (S : World → Prop) (h : ∀ w', Sep Γ w' → S w' ∧ B S w') : DrawVC w B :=
  DrawVC.of S fun w' hE _ => h w' (H.ext hE)
variable {P : Program} {base e n size : Nat} {xs : List Value}
/-- append onto a row of the call's own, of elements of any size; and where the new row lies. -/
theorem AppVC.rec {t ty : TypeId} {z : Value} {bytes : Nat} (ht : P.underlying t = some (.slice e)) (hi : TypeIs P e z size bytes) (hzs : z.cells.size = size) (hsz : 0 < size)
    {A A' : Option Addr} {c m c' : Nat} {news : List Value} {F : Option Addr → Nat → Nat → World → Prop}
    (hown : w.ownsRow base e size (.slice A n c) n xs) (hsrc : Cells w A' news) (hl : news.length = m * size) (h1 : ∀ u ∈ news, u.oneCell' = true)
    (hbytes : (n + m) * bytes ≤ 140737488355328) (hb0 : 0 < bytes) (hbase : base ≤ w.heap.size)
    (h : ∀ A2 c2 w', w'.ownsRow base e size (.slice A2 (n + m) c2) (n + m) (xs ++ news) → Mod (fun k => some k = (Value.slice A n c).ownBlock) w w' → n + m ≤ c2 →
      (∀ k, some k = (Value.slice A2 (n + m) c2).ownBlock → some k = (Value.slice A n c).ownBlock ∨ w.heap.size ≤ k) → F A2 (n + m) c2 w') :
    AppVC P #[t, t] ty (.slice A n c) (.slice A' m c') w F := by
  obtain ⟨i, hi, hz, hs, hy⟩ := hi
  have h63 : n + m ≤ maxLen := by
    have : (n + m) * 1 ≤ (n + m) * bytes := Nat.mul_le_mul_left _ hb0
    simp only [maxLen]; omega
  rcases A' with _ | ad
  · have hm : news = [] := by
      rcases news with _ | ⟨u, r⟩
      · rfl
      · obtain ⟨a, ha, _⟩ := hsrc 0 u rfl
        cases ha
    subst hm
    have hm0 : m = 0 := by
      rcases Nat.mul_eq_zero.1 (by simpa using hl.symm : m * size = 0) with h | h <;> omega
    subst hm0
    have hrun : (Builtin.append_ #[t, t] ty #[.slice A n c, .slice none 0 c']).run P w = .ok (.slice A n c) w := by
      rcases hown.2 with ⟨hv, rfl⟩ | ⟨g, cap, cur, hv, _, _, hnc, _⟩
      · injection hv with hA _ hc; subst hA; subst hc
        simp [Builtin.append_, run_underlying ht, sizeOf, typeInfo, hi, Builtin.lenOf, Builtin.firstCells]
      · injection hv with hA _ hc; subst hA; subst hc
        simp [Builtin.append_, run_underlying ht, sizeOf, typeInfo, hi, Builtin.lenOf, Builtin.firstCells, hnc, storeCells]
    obtain ⟨_, _, hv, hnc, _⟩ := own_form hown
    injection hv with _ _ hc
    subst hc
    exact ⟨A, n, c, w, hrun, h A c w (by simpa using hown) (Mod.refl _ w) (by omega) fun k hk => .inl hk⟩
  · obtain ⟨v', w', hr, h2, h3, _, hat⟩ := run_append_own_at (P := P) w base t ty e i z size bytes ht hi hz hs hy hzs hsz (.slice A n c) n xs hown ad m c' news hl
      (fun j u hu => by obtain ⟨a, ha, hc⟩ := hsrc j u hu; cases ha; exact hc) h1 h63 hbytes hbase
    obtain ⟨A2, c2, rfl, hc2, _⟩ := own_form h2
    refine ⟨A2, n + m, c2, w', hr, h A2 c2 w' h2 (Mod.grown h3) hc2 fun k hk => ?_⟩
    rcases hat with e | e
    · exact .inl (hk.trans e)
    · rw [e] at hk; injection hk with hk; exact .inr (by omega)
theorem AppVC.sep (H : Sep Γ w) (i : Nat) {t ty : TypeId} {z : Value} {bytes : Nat} (ht : P.underlying t = some (.slice e)) (hT : TypeIs P e z size bytes) (hzs : z.cells.size = size) (hsz : 0 < size)
    {A A' : Option Addr} {c m c' : Nat} {news : List Value} {F : Option Addr → Nat → Nat → World → Prop} (hi : Γ[i]? = some (Fct.own base e size (.slice A n c) n xs))
    (hsrc : Cells w A' news) (hl : news.length = m * size) (h1 : ∀ u ∈ news, u.oneCell' = true)
    (hbytes : (n + m) * bytes ≤ 140737488355328) (hb0 : 0 < bytes) (hbase : base ≤ w.heap.size)
    (h : ∀ A2 c2 w', Sep (Γ.set i (Fct.own base e size (.slice A2 (n + m) c2) (n + m) (xs ++ news))) w' → n + m ≤ c2 → F A2 (n + m) c2 w') :
    AppVC P #[t, t] ty (.slice A n c) (.slice A' m c') w F :=
  AppVC.rec ht hT hzs hsz (H.own i hi) hsrc hl h1 hbytes hb0 hbase fun A2 c2 w' ho hm hc hat =>
    h A2 c2 w' (H.mod i hi hm (fun k _ e => e.symm) _ ho fun k hk => by
      rcases hat k hk.symm with e | e
      · exact .inl e.symm
      · exact .inr ⟨e, (ho.lt k hk).2⟩) hc
/-- Into a row of the call's own: read, and written. -/
theorem IdxVC.sep (H : Sep Γ w) (j : Nat) {b n c m : Nat} {A : Option Addr} {i : Int} {F : Addr → Prop} (hi : Γ[j]? = some (Fct.own b e 1 (.slice A n c) n xs)) (h0 : 0 ≤ i) (h1 : i < n) (h2 : i < m)
    (hF : ∀ a, w.cell? a = xs[i.toNat]? → (∀ v K, v.oneCell' = true → (∀ w', Sep (Γ.set j (Fct.own b e 1 (.slice A n c) n (xs.set i.toNat v))) w' → K w') → SetVC w a v K) → F a) : IdxVC A m 1 i F :=
  IdxVC.own (H.own j hi) h0 h1 h2 fun a ha hset => hF a ha fun v K hv hK => hset v K hv fun w' _hz hm ho =>
    hK w' (H.mod j hi hm (fun _k _ e => e.symm) _ ho fun _k hk => .inl hk)
end
end Go.Eng
/- append(s, make([]byte, n)...): zeros are laid behind a row of the call's own. It speaks of any program. -/
namespace Go.Eng
open Go Go.RowKit
theorem zeroCells_u8 (m : Nat) : Builtin.zeroCells #[Value.int .u8 0] m = (List.replicate m (Value.int .u8 0)).toArray := by
  apply Array.ext'
  simp only [Builtin.zeroCells, List.size_toArray, List.length_cons, List.length_nil, Nat.zero_add, Nat.mul_one, Array.toList_map, Array.toList_range]
  apply List.ext_getElem
  · simp
  · intro i h1 h2
    simp [Nat.mod_one]
section
variable {P : Program} {w : World} {base e n : Nat} {xs : List Value}
theorem AppVC.zeros {t u ty : TypeId} (ht : P.underlying t = some (.slice e)) (hu : P.underlying u = some (.int .i64)) (hT : TypeIs P e (.int .u8 0) 1 1) {A : Option Addr} {c m : Nat} {k : Int} (hk : k = m) {F : Option Addr → Nat → Nat → World → Prop}
    (hown : w.ownsRow base e 1 (.slice A n c) n xs) (hb : n + m ≤ 140737488355328) (hbase : base ≤ w.heap.size)
    (h : ∀ A2 c2 w', w'.ownsRow base e 1 (.slice A2 (n + m) c2) (n + m) (xs ++ List.replicate m (Value.int .u8 0)) → Mod (fun k => some k = (Value.slice A n c).ownBlock) w w' → n + m ≤ c2 →
      (∀ k, some k = (Value.slice A2 (n + m) c2).ownBlock → some k = (Value.slice A n c).ownBlock ∨ w.heap.size ≤ k) → F A2 (n + m) c2 w') :
    AppVC P #[t, u] ty (.slice A n c) (.int .i64 k) w F := by
  subst hk
  obtain ⟨i, hi, hz, hs, hy⟩ := hT
  have hsmall : n + m ≤ maxLen := by simp only [maxLen]; omega
  have hlen : (xs ++ List.replicate m (Value.int .u8 0)).length = (n + m) * 1 := by
    rw [List.length_append, hown.1, List.length_replicate]; omega
  have hzc : Builtin.zeroCells (Value.int IntKind.u8 0).cells m = (List.replicate m (Value.int .u8 0)).toArray := zeroCells_u8 m
  have hz0 : ∀ q, (Builtin.zeroCells (Value.int IntKind.u8 0).cells q).size = q := fun q => by
    rw [show (Value.int IntKind.u8 0).cells = #[Value.int .u8 0] from rfl, zeroCells_u8]; simp
  have hw : IntKind.i64.wrap (m : Int) = m := w64 (by omega) (by omega)
  have l0 : ¬ ((m : Int) < 0) := by omega
  have l1 : ¬ ((281474976710656 : Int) < (m : Int)) := by omega
  have l2 : ¬ ((9223372036854775807 : Int) < (n : Int) + (m : Int)) := by omega
  have grown : ∀ (old : Nat), old < n + m → ∀ cs : Array Value, cs.toList = xs →
      (w.drew.alloc (.cells (cs ++ (List.replicate m (Value.int .u8 0)).toArray ++ Builtin.zeroCells (Value.int IntKind.u8 0).cells (grownCap w (n + m) old e - (n + m))) e)).ownsRow base e 1
        (.slice (some ⟨w.heap.size, 0, none⟩) (n + m) (grownCap w (n + m) old e)) (n + m) (xs ++ List.replicate m (Value.int .u8 0)) := by
    intro old ho cs hcs
    have hge := grownCap_ge w (n + m) old e
    have hcm : grownCap w (n + m) old e ≤ maxLen := grownCap_le_maxLen w (n + m) old e hsmall
    have hsz : cs.size = n := by rw [← Array.length_toList, hcs, hown.1]; omega
    refine ⟨hlen, .inr ⟨w.heap.size, _, _, rfl, hbase, heap_alloc_new w.drew _, hge, hcm, ?_, ?_⟩⟩
    · simp only [Array.size_append, List.size_toArray, List.length_replicate, hz0, hsz]
      omega
    · simp only [Array.toList_append, hcs, List.append_assoc]
      rw [← List.append_assoc, ← hlen]
      exact List.take_left
  have fin : ∀ (old : Nat), old < n + m → ∀ cs : Array Value, cs.toList = xs →
      F (some ⟨w.heap.size, 0, none⟩) (n + m) (grownCap w (n + m) old e) (w.drew.alloc (.cells (cs ++ (List.replicate m (Value.int .u8 0)).toArray ++ Builtin.zeroCells (Value.int IntKind.u8 0).cells (grownCap w (n + m) old e - (n + m))) e)) := fun old ho cs hcs =>
    h _ _ _ (grown old ho cs hcs) ⟨rfl, rfl, rfl, by simp, fun k hk _ => Below.heap_alloc w.drew _ k hk⟩ (grownCap_ge w (n + m) old e) fun k hk => .inr (by
      simp [Value.ownBlock] at hk; omega)
  have hbb : (Builtin.nextslicecap (n + m) c) * 1 ≤ 281474976710656 ∨ n + m ≤ c := by
    by_cases hc : n + m ≤ c
    · exact .inr hc
    · exact .inl (growslice_fits (by omega) (by omega))
  rcases hown.2 with ⟨hv, hn0⟩ | ⟨g, cap, cur, hv, hbg, hg, hnc, hcm, hcs, htake⟩
  · injection hv with hA _ hc
    subst hA; subst hc; subst hn0
    have hx : xs = [] := List.eq_nil_of_length_eq_zero (by simpa using hown.1)
    by_cases hm : m = 0
    · subst hm
      refine ⟨none, 0, 0, w, ?_, ?_⟩
      · simp [Builtin.append_, run_underlying ht, run_underlying hu, sizeOf, typeInfo, hi, asInt, asIntOf, show IntKind.i64.wrap 0 = 0 from rfl]
      · have := h none 0 w (by simpa [hx] using World.ownsRow_nil w base e 1) (Mod.refl _ _) (by omega) fun k hk => .inl (by simpa using hk)
        simpa using this
    · have h48 : ¬ ((281474976710656 : Nat) < Builtin.nextslicecap m 0 * 1) := by
        rcases hbb with e1 | e1
        · simp only [Nat.zero_add] at e1; omega
        · omega
      refine ⟨_, _, _, _, ?_, by simpa [hx] using fin 0 (by omega) #[] (by simp [hx])⟩
      have hm1 : ¬ (m * 1 = 0) := by omega
      simp [Builtin.append_, run_underlying ht, run_underlying hu, sizeOf, typeInfo, zeroValue, hi, hz, asInt, asIntOf, hw, l0, l1, hm, Question.forced, newRow, grownCap, hs, hy, hzc, Builtin.firstCells]
      rw [Nat.mul_one] at h48
      have l2' : ¬ ((9223372036854775807 : Int) < (m : Int)) := by omega
      simp [l2', h48]
  · injection hv with hA _ hcap
    subst hA; subst hcap
    by_cases hroom : n + m ≤ c
    · have hB : Blk w g e cur.toList := by unfold Blk; simpa using hg
      have hst : Stores ⟨g, n, none⟩ 0 (List.replicate m (Value.int .u8 0)) w fun w' => (Builtin.append_ #[t, u] ty #[.slice (some ⟨g, 0, none⟩) n c, .int .i64 m]).run P w = (do storeCells (⟨g, n, none⟩ : Addr) (List.replicate m (Value.int .u8 0)) 0; pure (Value.slice (some ⟨g, 0, none⟩) (n + m) c) : Sem Value).run P w ∧ F (some ⟨g, 0, none⟩) (n + m) c w' := by
        refine Stores.blk hB (fun v hv => by rw [(List.mem_replicate.1 hv).2]; rfl) (by simp; omega) fun w' hz' hm' hb' => ⟨?_, ?_⟩
        · have hn : ¬ (m * 1 = 0) ∨ m = 0 := by omega
          rcases hn with hn | hn
          · have hn' : ¬ (m = 0) := by omega
            simp [Builtin.append_, run_underlying ht, run_underlying hu, sizeOf, typeInfo, zeroValue, hi, hz, asInt, asIntOf, hw, l0, l1, hroom, hs, hy, hn', hzc, addr_add]
          · subst hn
            simp [Builtin.append_, run_underlying ht, run_underlying hu, sizeOf, typeInfo, zeroValue, hi, hz, asInt, asIntOf, show IntKind.i64.wrap 0 = 0 from rfl, hy, addr_add, hnc, storeCells]
        · refine h _ _ w' ⟨hlen, .inr ⟨g, c, (splice cur.toList n (List.replicate m (Value.int .u8 0))).toArray, rfl, hbg, by unfold Blk at hb'; simpa using hb', hroom, hcm, ?_, ?_⟩⟩ (hm'.mono fun k _ e => by simp [Value.ownBlock]; exact e) hroom fun k hk => .inl hk
          · unfold splice
            simp
            omega
          · unfold splice
            simp only [Nat.mul_one] at htake ⊢
            rw [htake, ← List.append_assoc]
            exact List.take_left' (by rw [hlen]; omega)
      obtain ⟨w', hr, he, hF⟩ := stores_sound (P := P) hst
      refine ⟨_, _, _, w', ?_, hF⟩
      rw [he]
      simp [hr]
    · have h48 : ¬ ((281474976710656 : Nat) < Builtin.nextslicecap (n + m) c * 1) := by
        rcases hbb with e1 | e1 <;> omega
      have holds : ∀ j u, xs[j]? = some u → w.drew.cell? ((⟨g, 0, none⟩ : Addr).add j) = some u := fun j u hu => by
        have := hown.cells (g := g) rfl j u hu
        simpa using this
      have hfo := run_firstCells_some (P := P) w.drew i.size n ⟨g, 0, none⟩ n c xs (by rw [hs]; exact hown.1) holds
      refine ⟨_, _, _, _, ?_, fin c (by omega) xs.toArray (by simp)⟩
      have hm' : ¬ (m = 0) := by omega
      simp [Builtin.append_, run_underlying ht, run_underlying hu, sizeOf, typeInfo, zeroValue, hi, hz, asInt, asIntOf, hw, l0, l1, hm', Question.forced, newRow, grownCap, hs, hy, hzc, hroom]
      rw [Nat.mul_one] at h48
      rw [hs] at hfo
      simp [l2, h48, hfo]
end
end Go.Eng
/- Rows with room behind their capacity; copies into a part of a block; new bytes of the library's own. It speaks of any program. -/
namespace Go.Eng
open Go Go.RowKit
/-- v reads xs, and its memory is its own: a row's head, or nil. -/
def Win (w : World) (b e : Nat) (v : Value) (n : Nat) (xs : List Value) : Prop :=
  xs.length = n ∧ ((v = .slice none 0 0 ∧ n = 0) ∨ ∃ g c cs, v = .slice (some ⟨g, 0, none⟩) n c ∧ b ≤ g ∧ n ≤ c ∧ c ≤ cs.length ∧ c ≤ maxLen ∧ Blk w g e cs ∧ cs.take n = xs)
section
variable {P : Program} {w w' : World} {b e n c : Nat} {v : Value} {A : Option Addr} {xs : List Value} {M : Nat → Prop}
theorem Win.mod (h : Win w b e v n xs) (hm : Mod M w w') (hn : ∀ k, v.ownBlock = some k → ¬ M k) : Win w' b e v n xs := by
  refine ⟨h.1, ?_⟩
  rcases h.2 with h2 | ⟨g, c, cs, rfl, h1, h2, h3, h4, h5, h6⟩
  · exact .inl h2
  · exact .inr ⟨g, c, cs, rfl, h1, h2, h3, h4, h5.mod hm (hn g rfl), h6⟩
theorem Win.of_own (h : w.ownsRow b e 1 v n xs) : Win w b e v n xs := by
  refine ⟨by have := h.1; omega, ?_⟩
  rcases h.2 with ⟨rfl, rfl⟩ | ⟨g, cap, cur, rfl, hb, hg, hc, hm, hs, ht⟩
  · exact .inl ⟨rfl, rfl⟩
  · exact .inr ⟨g, cap, cur.toList, rfl, hb, hc, by simp [hs], hm, by unfold Blk; simpa using hg, by simpa using ht⟩
theorem Win.cells (h : Win w b e (.slice A n c) n xs) : Cells w A xs := by
  rcases h.2 with ⟨h1, rfl⟩ | ⟨g, c', cs, h1, _, _, _, _, h5, h6⟩
  · have := h.1
    have : xs = [] := List.eq_nil_of_length_eq_zero this
    subst this
    exact Cells.nil _ _
  · injection h1 with hA _ _
    subst hA
    rw [← h6]
    exact (by simpa using Cells.of_blk h5 0 : Cells w (some ⟨g, 0, none⟩) cs).take n
theorem Win.lt (h : Win w b e v n xs) {k : Nat} (hk : v.ownBlock = some k) : b ≤ k ∧ k < w.heap.size := by
  rcases h.2 with ⟨rfl, rfl⟩ | ⟨g, c', cs, rfl, h1, _, _, _, h5, _⟩
  · simp [Value.ownBlock] at hk
  · simp [Value.ownBlock] at hk
    subst hk
    exact ⟨h1, h5.lt⟩
def Fct.win (b e : Nat) (v : Value) (n : Nat) (xs : List Value) : Fct := ⟨fun k => v.ownBlock = some k, fun w => Win w b e v n xs, fun _ _ _ h _ hm hn => h.mod hm fun k hk => hn k hk⟩
variable {Γ : List Fct}
theorem Sep.win (H : Sep Γ w) (i : Nat) (hi : Γ[i]? = some (Fct.win b e v n xs)) : Win w b e v n xs := H.yes i _ hi
theorem Sep.ownWin {i : Nat} (H : Sep Γ w) (hi : Γ[i]? = some (Fct.own b e 1 v n xs)) : Sep (Γ.set i (Fct.win b e v n xs)) w :=
  H.weaken i hi (Win.of_own (H.own i hi)) fun _ h => h
theorem CopyVC.part {dT sT ty g o dn dc c' m e' : Nat} {cs xs : List Value} {F : Int → World → Prop} (hu : P.underlying dT = some (.slice e)) (hs : (P.info? e).map (·.size) = some 1)
    (hb : Blk w g e' cs) (hc : Cells w A xs) (hl : xs.length = m) (hm : m ≤ dn) (hfit : o + dn ≤ cs.length) (h1 : ∀ v ∈ xs, v.oneCell' = true)
    (h : ∀ w', w'.heap.size = w.heap.size → Mod (fun k => k = g) w w' → Blk w' g e' (splice cs o xs) → F m w') : CopyVC P #[dT, sT] ty (.slice (some ⟨g, o, none⟩) dn dc) (.slice A m c') w F := by
  by_cases h0 : m = 0
  · subst h0
    have hx : xs = [] := List.eq_nil_of_length_eq_zero hl
    subst hx
    refine ⟨0, w, run_copy_none w dT sT ty e _ _ _ _ _ _ hu hs (by simp), h w rfl (Mod.refl _ _) ?_⟩
    unfold splice; simpa using hb
  · obtain ⟨a, ha, _⟩ := hc.at (i := 0) (by omega)
    subst ha
    have hr := run_copy_row (P := P) w dT sT ty e g o dn dc a m c' cs.toArray e' xs hu hs hb (by rw [hl]; exact (Nat.min_eq_left hm).symm) (fun j v hv => by obtain ⟨a', ha', hcv⟩ := hc j v hv; cases ha'; exact hcv) (by simp; omega) h1
    rw [hl] at hr
    refine ⟨_, _, hr, h _ ?_ ?_ ?_⟩
    · simp [World.setRow]
    · refine ⟨rfl, rfl, rfl, by simp [World.setRow], fun k hk hn => ?_⟩
      simp only [World.setRow, Array.getElem?_modify]
      rw [if_neg (fun e => hn e.symm)]
    · unfold Blk
      have := setRow_heap w g cs.toArray ((cs.take o ++ xs ++ cs.drop (o + xs.length)).toArray) e' (0, 0) hb
      rw [hl] at this
      unfold splice
      rw [hl]
      simpa using this
theorem CopyVC.sep (H : Sep Γ w) (i : Nat) {dT sT ty g o dn dc c' m e' : Nat} {cs xs : List Value} {F : Int → World → Prop} (hu : P.underlying dT = some (.slice e)) (hs : (P.info? e).map (·.size) = some 1)
    (hi : Γ[i]? = some (Fct.blk g e' cs)) (hc : Cells w A xs) (hl : xs.length = m) (hm : m ≤ dn) (hfit : o + dn ≤ cs.length) (h1 : ∀ v ∈ xs, v.oneCell' = true)
    (h : ∀ w', Sep (Γ.set i (Fct.blk g e' (splice cs o xs))) w' → F m w') : CopyVC P #[dT, sT] ty (.slice (some ⟨g, o, none⟩) dn dc) (.slice A m c') w F :=
  CopyVC.part hu hs (H.blk i hi) hc hl hm hfit h1 fun w' _hz hm' hb => h w' (H.mod i hi hm' (fun _ _ e => e) _ hb fun _ e => .inl e)
theorem NoZeroVC.sep (H : Sep Γ w) {k : Int} {F : Nat → Nat → World → Prop} (h0 : 0 ≤ k) (h1 : k ≤ 140737488355328) (h : ∀ g cs w', Sep (Γ ++ [Fct.blk g e cs]) w' → k ≤ cs.length → cs.length ≤ maxLen → F g cs.length w') : NoZeroVC w e k F := by
  refine ⟨h0, h1, fun g cs w' hg hk hm hw => ?_⟩
  have hE : Ext w w.drew.drew := (Ext.drew w).ext (Ext.drew _)
  have hE2 : Ext w w' := by rw [hw]; exact hE.ext (Ext.alloc _ _)
  have hb : Blk w' g e cs.toList := by
    subst hg; rw [hw]; exact Blk.new w.drew.drew e cs
  have := h g cs.toList w' (H.pushBlk hE2 hb (by omega)) (by simpa using hk) (by simpa using hm)
  simpa using this
theorem splice_len {cs xs : List Value} {o : Nat} (h : o + xs.length ≤ cs.length) : (splice cs o xs).length = cs.length := by
  unfold splice; simp; omega
theorem splice_take {cs xs : List Value} {o : Nat} (h : o + xs.length ≤ cs.length) : (splice cs o xs).take (o + xs.length) = cs.take o ++ xs := by
  unfold splice
  rw [← List.append_assoc]
  exact List.take_left' (by simp; omega)
/-- Where a part of a slice begins. -/
theorem at_off {g o k c : Nat} : ∃ o', (if c = k then (some ⟨g, o, none⟩ : Option Addr) else (some (⟨g, o, none⟩ : Addr)).map (·.add (k * 1))) = some ⟨g, o', none⟩ ∧ (c ≠ k → o' = o + k) ∧ (c = k → o' = o) := by
  by_cases h : c = k
  · exact ⟨o, by rw [if_pos h], fun x => absurd h x, fun _ => rfl⟩
  · exact ⟨o + k, by rw [if_neg h, Nat.mul_one]; simp [addr_add], fun _ => rfl, fun x => absurd x h⟩
end
end Go.Eng
/- Several parts of memory at once: what a call makes of many rows. It speaks of any program. -/
namespace Go.Eng
open Go Go.RowKit
def Fct.apart (f g : Fct) : Prop := ∀ k, f.R k → g.R k → False
section
variable {w0 w w' : World} {Γ Γ' Δ : List Fct} {f g : Fct}
theorem Sep.iff : Sep Γ w ↔ (∀ f ∈ Γ, f.φ w ∧ ∀ k, f.R k → k < w.heap.size) ∧ Γ.Pairwise Fct.apart := by
  constructor
  · intro H
    refine ⟨fun f hf => ?_, List.pairwise_iff_getElem.2 fun i j hi hj hij k h1 h2 => ?_⟩
    · obtain ⟨i, hi, rfl⟩ := List.getElem_of_mem hf
      exact ⟨H.yes i _ (List.getElem?_eq_getElem hi), H.lt i _ (List.getElem?_eq_getElem hi)⟩
    · exact H.apart i j _ _ (by omega) (List.getElem?_eq_getElem hi) (List.getElem?_eq_getElem hj) k h1 h2
  · rintro ⟨h1, h2⟩
    refine ⟨fun i f hf => (h1 f (List.mem_of_getElem? hf)).1, fun i f hf => (h1 f (List.mem_of_getElem? hf)).2, fun i j f g hij hf hg k hkf hkg => ?_⟩
    obtain ⟨hi, rfl⟩ := List.getElem?_eq_some_iff.1 hf
    obtain ⟨hj, rfl⟩ := List.getElem?_eq_some_iff.1 hg
    rw [List.pairwise_iff_getElem] at h2
    rcases Nat.lt_or_ge i j with h | h
    · exact h2 i j hi hj h k hkf hkg
    · exact h2 j i hj hi (by omega) k hkg hkf
theorem Sep.sub (H : Sep Γ w) (h : Γ'.Sublist Γ) : Sep Γ' w :=
  Sep.iff.2 ⟨fun f hf => (Sep.iff.1 H).1 f (h.subset hf), (Sep.iff.1 H).2.sublist h⟩
theorem Sep.perm (H : Sep Γ w) (h : Γ'.Perm Γ) : Sep Γ' w :=
  Sep.iff.2 ⟨fun f hf => (Sep.iff.1 H).1 f (h.subset hf), (h.pairwise_iff (fun {_a _b} hab k h1 h2 => hab k h2 h1)).2 (Sep.iff.1 H).2⟩
/-- A call that makes many parts. -/
theorem Sep.mades (H : Sep Γ w) (h : Sep (Fct.rest w None :: Δ) w') : Sep (Γ ++ Δ) w' := by
  have H' := Sep.iff.1 (H.ext (h.restOf 0 rfl))
  have h' := Sep.iff.1 h
  have hc := List.pairwise_cons.1 h'.2
  refine Sep.iff.2 ⟨fun f hf => ?_, List.pairwise_append.2 ⟨H'.2, hc.2, fun f hf g hg k h1 h2 => ?_⟩⟩
  · rcases List.mem_append.1 hf with hf | hf
    · exact H'.1 f hf
    · exact h'.1 f (by simp [hf])
  · exact hc.1 g hg k ⟨((Sep.iff.1 H).1 f hf).2 k h1, id⟩ h2
theorem Sep.start1 (H : Sep (Fct.rest w0 None :: Δ) w) : Ext w0 w := H.restOf 0 rfl
/-- A part that is looked at where it stands. -/
theorem Sep.mem (H : Sep Γ w) (hf : f ∈ Γ) : f.φ w := ((Sep.iff.1 H).1 f hf).1
end
section
variable {w : World} {Γ : List Fct} {f : Fct}
theorem NewVC.sepE (H : Sep Γ w) {cs : List Value} {t : TypeId} {F : Nat → World → Prop} (h : ∀ g w', Ext w w' → Sep (Γ ++ [Fct.blk g t cs]) w' → F g w') : NewVC w (.cells cs.toArray t) F :=
  NewVC.blk fun g w' hg hz hE hb => h g w' hE (H.pushBlk hE hb (by omega))
theorem Sep.front (H : Sep (Γ ++ [f]) w) : Sep (f :: Γ) w := H.perm (List.perm_append_singleton f Γ).symm
theorem Sep.rot (H : Sep (f :: Γ) w) : Sep (Γ ++ [f]) w := H.perm (List.perm_append_singleton f Γ)
theorem Cells.blk0 {g t : Nat} {cs : List Value} (h : Blk w g t cs) : Cells w (some ⟨g, 0, none⟩) cs := by simpa using Cells.of_blk h 0
theorem Sep.tail (H : Sep (f :: Γ) w) : Sep Γ w := H.sub (List.sublist_cons_self f Γ)
end
/-- The like parts, of which less is said. -/
inductive AllLe : List Fct → List Fct → Prop
  | nil : AllLe [] []
  | cons {f g : Fct} {Γ Δ : List Fct} (h1 : ∀ w, f.φ w → g.φ w) (h2 : ∀ k, g.R k → f.R k) (h : AllLe Γ Δ) : AllLe (f :: Γ) (g :: Δ)
theorem AllLe.refl : ∀ Γ : List Fct, AllLe Γ Γ
  | [] => .nil
  | _ :: Γ => .cons (fun _ h => h) (fun _ h => h) (AllLe.refl Γ)
theorem AllLe.append {Γ Δ Γ' Δ' : List Fct} (h : AllLe Γ Δ) (h' : AllLe Γ' Δ') : AllLe (Γ ++ Γ') (Δ ++ Δ') := by
  induction h with
  | nil => exact h'
  | cons h1 h2 _ ih => exact .cons h1 h2 ih
theorem AllLe.map {α : Type} {f g : α → Fct} : ∀ (l : List α), (∀ x ∈ l, (∀ w, (f x).φ w → (g x).φ w) ∧ ∀ k, (g x).R k → (f x).R k) → AllLe (l.map f) (l.map g)
  | [], _ => .nil
  | x :: l, h => .cons (h x (by simp)).1 (h x (by simp)).2 (AllLe.map l fun y hy => h y (by simp [hy]))
theorem AllLe.flatMap {α : Type} {f g : α → List Fct} : ∀ (l : List α), (∀ x ∈ l, AllLe (f x) (g x)) → AllLe (l.flatMap f) (l.flatMap g)
  | [], _ => .nil
  | x :: l, h => by
    rw [List.flatMap_cons, List.flatMap_cons]
    exact (h x (by simp)).append (AllLe.flatMap l fun y hy => h y (by simp [hy]))
theorem AllLe.sep {w : World} {Γ Δ : List Fct} (h : AllLe Γ Δ) (H : Sep Γ w) : Sep Δ w := by
  rw [Sep.iff] at H ⊢
  have key : ∀ {Γ Δ : List Fct}, AllLe Γ Δ → (∀ f ∈ Γ, f.φ w ∧ ∀ k, f.R k → k < w.heap.size) → Γ.Pairwise Fct.apart → (∀ f ∈ Δ, f.φ w ∧ ∀ k, f.R k → k < w.heap.size) ∧ Δ.Pairwise Fct.apart ∧ ∀ g ∈ Δ, ∃ f ∈ Γ, ∀ k, g.R k → f.R k := by
    intro Γ Δ h
    induction h with
    | nil => exact fun _ _ => ⟨(fun _ h => by cases h), .nil, fun _ h => by cases h⟩
    | @cons f g Γ Δ h1 h2 h ih =>
      intro ha hp
      have hp := List.pairwise_cons.1 hp
      obtain ⟨i1, i2, i3⟩ := ih (fun x hx => ha x (by simp [hx])) hp.2
      refine ⟨fun x hx => ?_, List.pairwise_cons.2 ⟨fun x hx k hk hxk => ?_, i2⟩, fun x hx => ?_⟩
      · rcases List.mem_cons.1 hx with rfl | hx
        · have := ha f (by simp)
          exact ⟨h1 _ this.1, fun k hk => this.2 k (h2 k hk)⟩
        · exact i1 x hx
      · obtain ⟨y, hy, hyk⟩ := i3 x hx
        exact hp.1 y hy k (h2 k hk) (hyk k hxk)
      · rcases List.mem_cons.1 hx with rfl | hx
        · exact ⟨f, by simp, h2⟩
        · obtain ⟨y, hy, hyk⟩ := i3 x hx
          exact ⟨y, by simp [hy], hyk⟩
  obtain ⟨i1, i2, _⟩ := key h H.1 H.2
  exact ⟨i1, i2⟩
theorem own_less {b b' e size n : Nat} {v : Value} {xs : List Value} (h : b' ≤ b) : (∀ w, (Fct.own b e size v n xs).φ w → (Fct.own b' e size v n xs).φ w) ∧ ∀ k, (Fct.own b' e size v n xs).R k → (Fct.own b e size v n xs).R k :=
  ⟨fun _ ho => own_base ho h, fun _ h => h⟩
/-- Records, laid one behind the other. -/
theorem Recs.of_cells {w : World} {A : Option Addr} {size : Nat} (h0 : 0 < size) {rs : List (List Value)} (hs : ∀ r ∈ rs, r.length = size) (h : Cells w A rs.flatten) : Recs w A size rs := by
  intro i cs hi
  have hcs : cs.length = size := hs cs (List.mem_of_getElem? hi)
  have key : ∀ (rs : List (List Value)) (i : Nat) (cs : List Value), (∀ r ∈ rs, r.length = size) → rs[i]? = some cs → ∀ j v, cs[j]? = some v → rs.flatten[i * size + j]? = some v := by
    intro rs
    induction rs with
    | nil => intro i cs _ h; simp at h
    | cons r l ih =>
      intro i cs hs h j v hv
      have hr : r.length = size := hs r (by simp)
      cases i with
      | zero =>
        simp at h; subst h
        have hj := (List.getElem?_eq_some_iff.1 hv).1
        rw [List.flatten_cons, List.getElem?_append_left (by omega)]
        simpa using hv
      | succ i =>
        rw [List.flatten_cons, List.getElem?_append_right (by rw [hr, Nat.succ_mul]; omega)]
        have := ih i cs (fun r hr => hs r (by simp [hr])) (by simpa using h) j v hv
        rw [← this]; congr 1; rw [hr, Nat.succ_mul]; omega
  obtain ⟨v, hv⟩ : ∃ v, cs[0]? = some v := by
    cases cs with
    | nil => simp at hcs; omega
    | cons v r => exact ⟨v, rfl⟩
  obtain ⟨a, ha, _⟩ := h _ v (key rs i cs hs hi 0 v hv)
  refine ⟨a, ha, CellsAt.of _ 0 fun j u hu => ?_⟩
  obtain ⟨a', ha', hc⟩ := h _ u (key rs i cs hs hi j u hu)
  rw [ha] at ha'; cases ha'
  rw [add_add]; simpa using hc
end Go.Eng
/- Options, extension headers and datagrams by value, and how they lie in memory. -/
namespace Go.Eng
open Go Go.RowKit
structure OptD where
  kind : Int
  data : List Int
structure ExtD where
  kind : Int
  opts : List OptD
  data : List Int
structure Ip6D where
  cls : Int
  flow : Int
  hop : Int
  src : IPV
  dst : IPV
  exts : List ExtD
  frag : FragV
  next : Int
  data : List Int
structure Ip4D where
  tos : Int
  id : Int
  df : Bool
  mf : Bool
  off : Int
  ttl : Int
  proto : Int
  src : IPV
  dst : IPV
  opts : List OptD
  data : List Int
/-- An option as it lies there, and its bytes. -/
structure OptR where
  v : OptV
  data : List Int
structure ExtR where
  v : ExtV
  opts : List OptR
  data : List Int
def OptR.d (r : OptR) : OptD := ⟨r.v.kind, r.data⟩
def ExtR.d (r : ExtR) : ExtD := ⟨r.v.kind, r.opts.map OptR.d, r.data⟩
def Ip6V.d (h : Ip6V) (es : List ExtR) (data : List Int) : Ip6D := ⟨h.cls, h.flow, h.hop, h.src, h.dst, es.map ExtR.d, h.frag, h.next, data⟩
def Ip4V.d (h : Ip4V) (os : List OptR) (data : List Int) : Ip4D := ⟨h.tos, h.id, h.df, h.mf, h.off, h.ttl, h.proto, h.src, h.dst, os.map OptR.d, data⟩
structure BytesAt (w : World) (s : Sl) (l : List Int) : Prop where
  len : l.length = s.n
  cap : s.n ≤ s.k
  small : s.n ≤ 4000000
  bts : Bts l
  cells : Cells w s.A (l.map (.int .u8))
structure OptsAt (w : World) (s : Sl) (rs : List OptR) : Prop where
  len : rs.length = s.n
  cap : s.n ≤ s.k
  small : s.n ≤ 4000000
  recs : Recs w s.A 2 (rs.map fun r => r.v.cells)
  each : ∀ r ∈ rs, BytesAt w r.v.data r.data
structure ExtsAt (w : World) (s : Sl) (rs : List ExtR) : Prop where
  len : rs.length = s.n
  cap : s.n ≤ s.k
  small : s.n ≤ 4000000
  recs : Recs w s.A 3 (rs.map fun r => r.v.cells)
  opts : ∀ r ∈ rs, OptsAt w r.v.opts r.opts
  data : ∀ r ∈ rs, BytesAt w r.v.data r.data
structure Ip6At (w : World) (h : Ip6V) (es : List ExtR) (data : List Int) : Prop where
  exts : ExtsAt w h.exts es
  data : BytesAt w h.data data
  src : Bts h.src.bytes
  dst : Bts h.dst.bytes
structure Ip4At (w : World) (h : Ip4V) (os : List OptR) (data : List Int) : Prop where
  opts : OptsAt w h.opts os
  data : BytesAt w h.data data
  src : Bts h.src.bytes
  dst : Bts h.dst.bytes
section
variable {w w' : World} {s : Sl}
theorem BytesAt.ext {l : List Int} (h : BytesAt w s l) (hE : Ext w w') : BytesAt w' s l := { h with cells := h.cells.ext hE }
theorem OptsAt.ext {l : List OptR} (h : OptsAt w s l) (hE : Ext w w') : OptsAt w' s l := { h with recs := h.recs.ext hE, each := fun r hr => (h.each r hr).ext hE }
theorem ExtsAt.ext {l : List ExtR} (h : ExtsAt w s l) (hE : Ext w w') : ExtsAt w' s l := { h with recs := h.recs.ext hE, opts := fun r hr => (h.opts r hr).ext hE, data := fun r hr => (h.data r hr).ext hE }
theorem Ip6At.ext {h : Ip6V} {es : List ExtR} {data : List Int} (H : Ip6At w h es data) (hE : Ext w w') : Ip6At w' h es data := { H with exts := H.exts.ext hE, data := H.data.ext hE }
theorem Ip4At.ext {h : Ip4V} {os : List OptR} {data : List Int} (H : Ip4At w h os data) (hE : Ext w w') : Ip4At w' h os data := { H with opts := H.opts.ext hE, data := H.data.ext hE }
theorem BytesAt.nil (w : World) (A : Option Addr) (k : Nat) : BytesAt w ⟨A, 0, k⟩ [] := ⟨rfl, Nat.zero_le _, Nat.zero_le _, (fun _ h => by cases h), Cells.nil _ _⟩
theorem OptsAt.nil (w : World) (A : Option Addr) (k : Nat) : OptsAt w ⟨A, 0, k⟩ [] := ⟨rfl, Nat.zero_le _, Nat.zero_le _, (fun i cs h => by simp at h), fun _ h => by cases h⟩
theorem ExtsAt.nil (w : World) (A : Option Addr) (k : Nat) : ExtsAt w ⟨A, 0, k⟩ [] := ⟨rfl, Nat.zero_le _, Nat.zero_le _, (fun i cs h => by simp at h), (fun _ h => by cases h), fun _ h => by cases h⟩
/-- The i-th option is looked at. -/
theorem OptsAt.idx {rs : List OptR} (h : OptsAt w s rs) {i : Nat} {m : Nat} (hm : s.n = m) (hi : i < m) {F : Addr → Prop} (hF : ∀ a r, rs[i]? = some r → CellsAt w a 0 r.v.cells → BytesAt w r.v.data r.data → F a) : IdxVC s.A m 2 (i : Int) F := by
  subst hm
  refine IdxVC.rec h.recs (by omega) (by omega) (by simpa using h.len) fun a hc => ?_
  have hlt : i < rs.length := by rw [h.len]; exact hi
  have he : rs[i]? = some rs[i] := List.getElem?_eq_getElem hlt
  refine hF a rs[i] he ?_ (h.each _ (List.getElem_mem hlt))
  simpa [List.getD_eq_getElem?_getD, he] using hc
theorem ExtsAt.idx {rs : List ExtR} (h : ExtsAt w s rs) {i : Nat} {m : Nat} (hm : s.n = m) (hi : i < m) {F : Addr → Prop} (hF : ∀ a r, rs[i]? = some r → CellsAt w a 0 r.v.cells → OptsAt w r.v.opts r.opts → BytesAt w r.v.data r.data → F a) : IdxVC s.A m 3 (i : Int) F := by
  subst hm
  refine IdxVC.rec h.recs (by omega) (by omega) (by simpa using h.len) fun a hc => ?_
  have hlt : i < rs.length := by rw [h.len]; exact hi
  have he : rs[i]? = some rs[i] := List.getElem?_eq_getElem hlt
  refine hF a rs[i] he ?_ (h.opts _ (List.getElem_mem hlt)) (h.data _ (List.getElem_mem hlt))
  simpa [List.getD_eq_getElem?_getD, he] using hc
/-- The i-th byte is looked at. -/
theorem BytesAt.idx {l : List Int} (h : BytesAt w s l) {i : Nat} {m : Nat} (hm : s.n = m) (hi : i < m) {F : Addr → Prop} (hF : ∀ a x, l[i]? = some x → 0 ≤ x → x < 256 → w.cell? a = some (.int .u8 x) → F a) : IdxVC s.A m 1 (i : Int) F := by
  subst hm
  have hlt : i < l.length := by rw [h.len]; exact hi
  have hb := h.bts _ (List.getElem_mem hlt)
  refine IdxVC.int h.cells (by omega) (by omega) h.len fun a hc => hF a l[i] (List.getElem?_eq_getElem hlt) hb.1 hb.2 ?_
  rw [hc]; simp [hlt]
end
end Go.Eng
/- Changes to be done, as they lie in memory. -/
namespace Go.Eng
open Go Go.RowKit
section
variable {w : World}
/-- The changes to be done, as they lie there. -/
structure TurnsAt (w : World) (s : Sl) (ts : List TurnV) : Prop where
  len : ts.length = s.n
  small : s.n ≤ 4000000
  recs : Recs w s.A 3 (ts.map TurnV.cells)
theorem TurnsAt.ext {w' : World} {s : Sl} {ts : List TurnV} (h : TurnsAt w s ts) (hE : Ext w w') : TurnsAt w' s ts := { h with recs := h.recs.ext hE }
theorem TurnsAt.idx {s : Sl} {ts : List TurnV} (h : TurnsAt w s ts) {i : Nat} (hi : i < s.n) {F : Addr → Prop} (hF : ∀ a (t : TurnV), CellsAt w a 0 t.cells → F a) : IdxVC s.A s.n 3 (i : Int) F := by
  refine IdxVC.rec h.recs (by omega) (by omega) (by simpa using h.len) fun a hc => ?_
  have hlt : i < ts.length := by rw [h.len]; exact hi
  refine hF a ts[i] ?_
  simpa [List.getD_eq_getElem?_getD, List.getElem?_eq_getElem hlt] using hc
end
end Go.Eng
