/- Values of the program's types, by their parts: their cells, their zero, how one is found in memory. (Printed by shapes.py, a program of this session.) -/
import Derived.Test.YthhgbpmihhljdaaGreatDoorBaf
namespace Go.Eng
open Go
/-- A slice, by its parts. -/
structure Sl where
  A : Option Addr
  n : Nat
  k : Nat
def Sl.val (s : Sl) : Value := .slice s.A s.n s.k
def Sl.z : Sl := ⟨none, 0, 0⟩
structure A16V where
  a0 : Int
  a1 : Int
  a2 : Int
  a3 : Int
  a4 : Int
  a5 : Int
  a6 : Int
  a7 : Int
  a8 : Int
  a9 : Int
  a10 : Int
  a11 : Int
  a12 : Int
  a13 : Int
  a14 : Int
  a15 : Int
def A16V.cells (h : A16V) : List Value := [.int .u8 h.a0, .int .u8 h.a1, .int .u8 h.a2, .int .u8 h.a3, .int .u8 h.a4, .int .u8 h.a5, .int .u8 h.a6, .int .u8 h.a7, .int .u8 h.a8, .int .u8 h.a9, .int .u8 h.a10, .int .u8 h.a11, .int .u8 h.a12, .int .u8 h.a13, .int .u8 h.a14, .int .u8 h.a15]
def A16V.val (h : A16V) : Value := .agg #[.int .u8 h.a0, .int .u8 h.a1, .int .u8 h.a2, .int .u8 h.a3, .int .u8 h.a4, .int .u8 h.a5, .int .u8 h.a6, .int .u8 h.a7, .int .u8 h.a8, .int .u8 h.a9, .int .u8 h.a10, .int .u8 h.a11, .int .u8 h.a12, .int .u8 h.a13, .int .u8 h.a14, .int .u8 h.a15]
def A16V.ex (K : A16V → Prop) : Prop := ∃ a0 : Int, ∃ a1 : Int, ∃ a2 : Int, ∃ a3 : Int, ∃ a4 : Int, ∃ a5 : Int, ∃ a6 : Int, ∃ a7 : Int, ∃ a8 : Int, ∃ a9 : Int, ∃ a10 : Int, ∃ a11 : Int, ∃ a12 : Int, ∃ a13 : Int, ∃ a14 : Int, ∃ a15 : Int, K ⟨a0, a1, a2, a3, a4, a5, a6, a7, a8, a9, a10, a11, a12, a13, a14, a15⟩
theorem A16V.of {K : A16V → Prop} (h : A16V) (hK : K h) : A16V.ex K := by unfold A16V.ex; exact ⟨_, _, _, _, _, _, _, _, _, _, _, _, _, _, _, _, hK⟩
def A16V.z : A16V := ⟨0, 0, 0, 0, 0, 0, 0, 0, 0, 0, 0, 0, 0, 0, 0, 0⟩
theorem A16V.one (h : A16V) : ∀ v ∈ h.cells, v.oneCell' = true := List.all_eq_true.1 (rfl : h.cells.all Value.oneCell' = true)
def A16V.beq (a b : A16V) : Bool := ((decide (a.a0 = b.a0)) && ((decide (a.a1 = b.a1)) && ((decide (a.a2 = b.a2)) && ((decide (a.a3 = b.a3)) && ((decide (a.a4 = b.a4)) && ((decide (a.a5 = b.a5)) && ((decide (a.a6 = b.a6)) && ((decide (a.a7 = b.a7)) && ((decide (a.a8 = b.a8)) && ((decide (a.a9 = b.a9)) && ((decide (a.a10 = b.a10)) && ((decide (a.a11 = b.a11)) && ((decide (a.a12 = b.a12)) && ((decide (a.a13 = b.a13)) && ((decide (a.a14 = b.a14)) && ((decide (a.a15 = b.a15)) && true))))))))))))))))
structure IPV where
  v : Int
  a0 : Int
  a1 : Int
  a2 : Int
  a3 : Int
  a4 : Int
  a5 : Int
  a6 : Int
  a7 : Int
  a8 : Int
  a9 : Int
  a10 : Int
  a11 : Int
  a12 : Int
  a13 : Int
  a14 : Int
  a15 : Int
def IPV.cells (h : IPV) : List Value := [.int .i64 h.v, .int .u8 h.a0, .int .u8 h.a1, .int .u8 h.a2, .int .u8 h.a3, .int .u8 h.a4, .int .u8 h.a5, .int .u8 h.a6, .int .u8 h.a7, .int .u8 h.a8, .int .u8 h.a9, .int .u8 h.a10, .int .u8 h.a11, .int .u8 h.a12, .int .u8 h.a13, .int .u8 h.a14, .int .u8 h.a15]
def IPV.val (h : IPV) : Value := .agg #[.int .i64 h.v, .int .u8 h.a0, .int .u8 h.a1, .int .u8 h.a2, .int .u8 h.a3, .int .u8 h.a4, .int .u8 h.a5, .int .u8 h.a6, .int .u8 h.a7, .int .u8 h.a8, .int .u8 h.a9, .int .u8 h.a10, .int .u8 h.a11, .int .u8 h.a12, .int .u8 h.a13, .int .u8 h.a14, .int .u8 h.a15]
def IPV.bytes (p : IPV) : List Int := [p.a0, p.a1, p.a2, p.a3, p.a4, p.a5, p.a6, p.a7, p.a8, p.a9, p.a10, p.a11, p.a12, p.a13, p.a14, p.a15]
def IPV.ex (K : IPV → Prop) : Prop := ∃ v : Int, ∃ a0 : Int, ∃ a1 : Int, ∃ a2 : Int, ∃ a3 : Int, ∃ a4 : Int, ∃ a5 : Int, ∃ a6 : Int, ∃ a7 : Int, ∃ a8 : Int, ∃ a9 : Int, ∃ a10 : Int, ∃ a11 : Int, ∃ a12 : Int, ∃ a13 : Int, ∃ a14 : Int, ∃ a15 : Int, K ⟨v, a0, a1, a2, a3, a4, a5, a6, a7, a8, a9, a10, a11, a12, a13, a14, a15⟩
theorem IPV.of {K : IPV → Prop} (h : IPV) (hK : K h) : IPV.ex K := by unfold IPV.ex; exact ⟨_, _, _, _, _, _, _, _, _, _, _, _, _, _, _, _, _, hK⟩
def IPV.z : IPV := ⟨0, 0, 0, 0, 0, 0, 0, 0, 0, 0, 0, 0, 0, 0, 0, 0, 0⟩
theorem IPV.one (h : IPV) : ∀ v ∈ h.cells, v.oneCell' = true := List.all_eq_true.1 (rfl : h.cells.all Value.oneCell' = true)
def IPV.beq (a b : IPV) : Bool := ((decide (a.v = b.v)) && (((decide (a.a0 = b.a0)) && ((decide (a.a1 = b.a1)) && ((decide (a.a2 = b.a2)) && ((decide (a.a3 = b.a3)) && ((decide (a.a4 = b.a4)) && ((decide (a.a5 = b.a5)) && ((decide (a.a6 = b.a6)) && ((decide (a.a7 = b.a7)) && ((decide (a.a8 = b.a8)) && ((decide (a.a9 = b.a9)) && ((decide (a.a10 = b.a10)) && ((decide (a.a11 = b.a11)) && ((decide (a.a12 = b.a12)) && ((decide (a.a13 = b.a13)) && ((decide (a.a14 = b.a14)) && ((decide (a.a15 = b.a15)) && true)))))))))))))))) && true))
structure FragV where
  has : Bool
  more : Bool
  id : Int
  off : Int
def FragV.cells (h : FragV) : List Value := [.bool h.has, .bool h.more, .int .i64 h.id, .int .i64 h.off]
def FragV.val (h : FragV) : Value := .agg #[.bool h.has, .bool h.more, .int .i64 h.id, .int .i64 h.off]
def FragV.ex (K : FragV → Prop) : Prop := ∃ has : Bool, ∃ more : Bool, ∃ id : Int, ∃ off : Int, K ⟨has, more, id, off⟩
theorem FragV.of {K : FragV → Prop} (h : FragV) (hK : K h) : FragV.ex K := by unfold FragV.ex; exact ⟨_, _, _, _, hK⟩
def FragV.z : FragV := ⟨false, false, 0, 0⟩
theorem FragV.one (h : FragV) : ∀ v ∈ h.cells, v.oneCell' = true := List.all_eq_true.1 (rfl : h.cells.all Value.oneCell' = true)
def FragV.beq (a b : FragV) : Bool := ((a.has == b.has) && ((a.more == b.more) && ((decide (a.id = b.id)) && ((decide (a.off = b.off)) && true))))
structure OptV where
  kind : Int
  data : Sl
def OptV.cells (h : OptV) : List Value := [.int .i64 h.kind, .slice h.data.A h.data.n h.data.k]
def OptV.val (h : OptV) : Value := .agg #[.int .i64 h.kind, .slice h.data.A h.data.n h.data.k]
def OptV.ex (K : OptV → Prop) : Prop := ∃ kind : Int, ∃ (dataA : Option Addr) (datan datak : Nat), K ⟨kind, ⟨dataA, datan, datak⟩⟩
theorem OptV.of {K : OptV → Prop} (h : OptV) (hK : K h) : OptV.ex K := by unfold OptV.ex; exact ⟨_, _, _, _, hK⟩
def OptV.z : OptV := ⟨0, ⟨none, 0, 0⟩⟩
theorem OptV.one (h : OptV) : ∀ v ∈ h.cells, v.oneCell' = true := List.all_eq_true.1 (rfl : h.cells.all Value.oneCell' = true)
structure ExtV where
  kind : Int
  opts : Sl
  data : Sl
def ExtV.cells (h : ExtV) : List Value := [.int .i64 h.kind, .slice h.opts.A h.opts.n h.opts.k, .slice h.data.A h.data.n h.data.k]
def ExtV.val (h : ExtV) : Value := .agg #[.int .i64 h.kind, .slice h.opts.A h.opts.n h.opts.k, .slice h.data.A h.data.n h.data.k]
def ExtV.ex (K : ExtV → Prop) : Prop := ∃ kind : Int, ∃ (optsA : Option Addr) (optsn optsk : Nat), ∃ (dataA : Option Addr) (datan datak : Nat), K ⟨kind, ⟨optsA, optsn, optsk⟩, ⟨dataA, datan, datak⟩⟩
theorem ExtV.of {K : ExtV → Prop} (h : ExtV) (hK : K h) : ExtV.ex K := by unfold ExtV.ex; exact ⟨_, _, _, _, _, _, _, hK⟩
def ExtV.z : ExtV := ⟨0, ⟨none, 0, 0⟩, ⟨none, 0, 0⟩⟩
theorem ExtV.one (h : ExtV) : ∀ v ∈ h.cells, v.oneCell' = true := List.all_eq_true.1 (rfl : h.cells.all Value.oneCell' = true)
structure Ip4V where
  tos : Int
  id : Int
  df : Bool
  mf : Bool
  off : Int
  ttl : Int
  proto : Int
  src : IPV
  dst : IPV
  opts : Sl
  data : Sl
def Ip4V.cells (h : Ip4V) : List Value := [.int .i64 h.tos, .int .i64 h.id, .bool h.df, .bool h.mf, .int .i64 h.off, .int .i64 h.ttl, .int .i64 h.proto, .int .i64 h.src.v, .int .u8 h.src.a0, .int .u8 h.src.a1, .int .u8 h.src.a2, .int .u8 h.src.a3, .int .u8 h.src.a4, .int .u8 h.src.a5, .int .u8 h.src.a6, .int .u8 h.src.a7, .int .u8 h.src.a8, .int .u8 h.src.a9, .int .u8 h.src.a10, .int .u8 h.src.a11, .int .u8 h.src.a12, .int .u8 h.src.a13, .int .u8 h.src.a14, .int .u8 h.src.a15, .int .i64 h.dst.v, .int .u8 h.dst.a0, .int .u8 h.dst.a1, .int .u8 h.dst.a2, .int .u8 h.dst.a3, .int .u8 h.dst.a4, .int .u8 h.dst.a5, .int .u8 h.dst.a6, .int .u8 h.dst.a7, .int .u8 h.dst.a8, .int .u8 h.dst.a9, .int .u8 h.dst.a10, .int .u8 h.dst.a11, .int .u8 h.dst.a12, .int .u8 h.dst.a13, .int .u8 h.dst.a14, .int .u8 h.dst.a15, .slice h.opts.A h.opts.n h.opts.k, .slice h.data.A h.data.n h.data.k]
def Ip4V.val (h : Ip4V) : Value := .agg #[.int .i64 h.tos, .int .i64 h.id, .bool h.df, .bool h.mf, .int .i64 h.off, .int .i64 h.ttl, .int .i64 h.proto, .int .i64 h.src.v, .int .u8 h.src.a0, .int .u8 h.src.a1, .int .u8 h.src.a2, .int .u8 h.src.a3, .int .u8 h.src.a4, .int .u8 h.src.a5, .int .u8 h.src.a6, .int .u8 h.src.a7, .int .u8 h.src.a8, .int .u8 h.src.a9, .int .u8 h.src.a10, .int .u8 h.src.a11, .int .u8 h.src.a12, .int .u8 h.src.a13, .int .u8 h.src.a14, .int .u8 h.src.a15, .int .i64 h.dst.v, .int .u8 h.dst.a0, .int .u8 h.dst.a1, .int .u8 h.dst.a2, .int .u8 h.dst.a3, .int .u8 h.dst.a4, .int .u8 h.dst.a5, .int .u8 h.dst.a6, .int .u8 h.dst.a7, .int .u8 h.dst.a8, .int .u8 h.dst.a9, .int .u8 h.dst.a10, .int .u8 h.dst.a11, .int .u8 h.dst.a12, .int .u8 h.dst.a13, .int .u8 h.dst.a14, .int .u8 h.dst.a15, .slice h.opts.A h.opts.n h.opts.k, .slice h.data.A h.data.n h.data.k]
def Ip4V.ex (K : Ip4V → Prop) : Prop := ∃ tos : Int, ∃ id : Int, ∃ df : Bool, ∃ mf : Bool, ∃ off : Int, ∃ ttl : Int, ∃ proto : Int, ∃ src_v : Int, ∃ src_a0 : Int, ∃ src_a1 : Int, ∃ src_a2 : Int, ∃ src_a3 : Int, ∃ src_a4 : Int, ∃ src_a5 : Int, ∃ src_a6 : Int, ∃ src_a7 : Int, ∃ src_a8 : Int, ∃ src_a9 : Int, ∃ src_a10 : Int, ∃ src_a11 : Int, ∃ src_a12 : Int, ∃ src_a13 : Int, ∃ src_a14 : Int, ∃ src_a15 : Int, ∃ dst_v : Int, ∃ dst_a0 : Int, ∃ dst_a1 : Int, ∃ dst_a2 : Int, ∃ dst_a3 : Int, ∃ dst_a4 : Int, ∃ dst_a5 : Int, ∃ dst_a6 : Int, ∃ dst_a7 : Int, ∃ dst_a8 : Int, ∃ dst_a9 : Int, ∃ dst_a10 : Int, ∃ dst_a11 : Int, ∃ dst_a12 : Int, ∃ dst_a13 : Int, ∃ dst_a14 : Int, ∃ dst_a15 : Int, ∃ (optsA : Option Addr) (optsn optsk : Nat), ∃ (dataA : Option Addr) (datan datak : Nat), K ⟨tos, id, df, mf, off, ttl, proto, ⟨src_v, src_a0, src_a1, src_a2, src_a3, src_a4, src_a5, src_a6, src_a7, src_a8, src_a9, src_a10, src_a11, src_a12, src_a13, src_a14, src_a15⟩, ⟨dst_v, dst_a0, dst_a1, dst_a2, dst_a3, dst_a4, dst_a5, dst_a6, dst_a7, dst_a8, dst_a9, dst_a10, dst_a11, dst_a12, dst_a13, dst_a14, dst_a15⟩, ⟨optsA, optsn, optsk⟩, ⟨dataA, datan, datak⟩⟩
theorem Ip4V.of {K : Ip4V → Prop} (h : Ip4V) (hK : K h) : Ip4V.ex K := by unfold Ip4V.ex; exact ⟨_, _, _, _, _, _, _, _, _, _, _, _, _, _, _, _, _, _, _, _, _, _, _, _, _, _, _, _, _, _, _, _, _, _, _, _, _, _, _, _, _, _, _, _, _, _, _, hK⟩
def Ip4V.z : Ip4V := ⟨0, 0, false, false, 0, 0, 0, ⟨0, 0, 0, 0, 0, 0, 0, 0, 0, 0, 0, 0, 0, 0, 0, 0, 0⟩, ⟨0, 0, 0, 0, 0, 0, 0, 0, 0, 0, 0, 0, 0, 0, 0, 0, 0⟩, ⟨none, 0, 0⟩, ⟨none, 0, 0⟩⟩
theorem Ip4V.one (h : Ip4V) : ∀ v ∈ h.cells, v.oneCell' = true := List.all_eq_true.1 (rfl : h.cells.all Value.oneCell' = true)
structure Ip6V where
  cls : Int
  flow : Int
  hop : Int
  src : IPV
  dst : IPV
  exts : Sl
  frag : FragV
  next : Int
  data : Sl
def Ip6V.cells (h : Ip6V) : List Value := [.int .i64 h.cls, .int .i64 h.flow, .int .i64 h.hop, .int .i64 h.src.v, .int .u8 h.src.a0, .int .u8 h.src.a1, .int .u8 h.src.a2, .int .u8 h.src.a3, .int .u8 h.src.a4, .int .u8 h.src.a5, .int .u8 h.src.a6, .int .u8 h.src.a7, .int .u8 h.src.a8, .int .u8 h.src.a9, .int .u8 h.src.a10, .int .u8 h.src.a11, .int .u8 h.src.a12, .int .u8 h.src.a13, .int .u8 h.src.a14, .int .u8 h.src.a15, .int .i64 h.dst.v, .int .u8 h.dst.a0, .int .u8 h.dst.a1, .int .u8 h.dst.a2, .int .u8 h.dst.a3, .int .u8 h.dst.a4, .int .u8 h.dst.a5, .int .u8 h.dst.a6, .int .u8 h.dst.a7, .int .u8 h.dst.a8, .int .u8 h.dst.a9, .int .u8 h.dst.a10, .int .u8 h.dst.a11, .int .u8 h.dst.a12, .int .u8 h.dst.a13, .int .u8 h.dst.a14, .int .u8 h.dst.a15, .slice h.exts.A h.exts.n h.exts.k, .bool h.frag.has, .bool h.frag.more, .int .i64 h.frag.id, .int .i64 h.frag.off, .int .i64 h.next, .slice h.data.A h.data.n h.data.k]
def Ip6V.val (h : Ip6V) : Value := .agg #[.int .i64 h.cls, .int .i64 h.flow, .int .i64 h.hop, .int .i64 h.src.v, .int .u8 h.src.a0, .int .u8 h.src.a1, .int .u8 h.src.a2, .int .u8 h.src.a3, .int .u8 h.src.a4, .int .u8 h.src.a5, .int .u8 h.src.a6, .int .u8 h.src.a7, .int .u8 h.src.a8, .int .u8 h.src.a9, .int .u8 h.src.a10, .int .u8 h.src.a11, .int .u8 h.src.a12, .int .u8 h.src.a13, .int .u8 h.src.a14, .int .u8 h.src.a15, .int .i64 h.dst.v, .int .u8 h.dst.a0, .int .u8 h.dst.a1, .int .u8 h.dst.a2, .int .u8 h.dst.a3, .int .u8 h.dst.a4, .int .u8 h.dst.a5, .int .u8 h.dst.a6, .int .u8 h.dst.a7, .int .u8 h.dst.a8, .int .u8 h.dst.a9, .int .u8 h.dst.a10, .int .u8 h.dst.a11, .int .u8 h.dst.a12, .int .u8 h.dst.a13, .int .u8 h.dst.a14, .int .u8 h.dst.a15, .slice h.exts.A h.exts.n h.exts.k, .bool h.frag.has, .bool h.frag.more, .int .i64 h.frag.id, .int .i64 h.frag.off, .int .i64 h.next, .slice h.data.A h.data.n h.data.k]
def Ip6V.ex (K : Ip6V → Prop) : Prop := ∃ cls : Int, ∃ flow : Int, ∃ hop : Int, ∃ src_v : Int, ∃ src_a0 : Int, ∃ src_a1 : Int, ∃ src_a2 : Int, ∃ src_a3 : Int, ∃ src_a4 : Int, ∃ src_a5 : Int, ∃ src_a6 : Int, ∃ src_a7 : Int, ∃ src_a8 : Int, ∃ src_a9 : Int, ∃ src_a10 : Int, ∃ src_a11 : Int, ∃ src_a12 : Int, ∃ src_a13 : Int, ∃ src_a14 : Int, ∃ src_a15 : Int, ∃ dst_v : Int, ∃ dst_a0 : Int, ∃ dst_a1 : Int, ∃ dst_a2 : Int, ∃ dst_a3 : Int, ∃ dst_a4 : Int, ∃ dst_a5 : Int, ∃ dst_a6 : Int, ∃ dst_a7 : Int, ∃ dst_a8 : Int, ∃ dst_a9 : Int, ∃ dst_a10 : Int, ∃ dst_a11 : Int, ∃ dst_a12 : Int, ∃ dst_a13 : Int, ∃ dst_a14 : Int, ∃ dst_a15 : Int, ∃ (extsA : Option Addr) (extsn extsk : Nat), ∃ frag_has : Bool, ∃ frag_more : Bool, ∃ frag_id : Int, ∃ frag_off : Int, ∃ next : Int, ∃ (dataA : Option Addr) (datan datak : Nat), K ⟨cls, flow, hop, ⟨src_v, src_a0, src_a1, src_a2, src_a3, src_a4, src_a5, src_a6, src_a7, src_a8, src_a9, src_a10, src_a11, src_a12, src_a13, src_a14, src_a15⟩, ⟨dst_v, dst_a0, dst_a1, dst_a2, dst_a3, dst_a4, dst_a5, dst_a6, dst_a7, dst_a8, dst_a9, dst_a10, dst_a11, dst_a12, dst_a13, dst_a14, dst_a15⟩, ⟨extsA, extsn, extsk⟩, ⟨frag_has, frag_more, frag_id, frag_off⟩, next, ⟨dataA, datan, datak⟩⟩
theorem Ip6V.of {K : Ip6V → Prop} (h : Ip6V) (hK : K h) : Ip6V.ex K := by unfold Ip6V.ex; exact ⟨_, _, _, _, _, _, _, _, _, _, _, _, _, _, _, _, _, _, _, _, _, _, _, _, _, _, _, _, _, _, _, _, _, _, _, _, _, _, _, _, _, _, _, _, _, _, _, _, hK⟩
def Ip6V.z : Ip6V := ⟨0, 0, 0, ⟨0, 0, 0, 0, 0, 0, 0, 0, 0, 0, 0, 0, 0, 0, 0, 0, 0⟩, ⟨0, 0, 0, 0, 0, 0, 0, 0, 0, 0, 0, 0, 0, 0, 0, 0, 0⟩, ⟨none, 0, 0⟩, ⟨false, false, 0, 0⟩, 0, ⟨none, 0, 0⟩⟩
theorem Ip6V.one (h : Ip6V) : ∀ v ∈ h.cells, v.oneCell' = true := List.all_eq_true.1 (rfl : h.cells.all Value.oneCell' = true)
structure IcmV where
  v : Int
  t : Int
  c : Int
  r : Int
  data : Sl
def IcmV.cells (h : IcmV) : List Value := [.int .i64 h.v, .int .i64 h.t, .int .i64 h.c, .int .i64 h.r, .slice h.data.A h.data.n h.data.k]
def IcmV.val (h : IcmV) : Value := .agg #[.int .i64 h.v, .int .i64 h.t, .int .i64 h.c, .int .i64 h.r, .slice h.data.A h.data.n h.data.k]
def IcmV.ex (K : IcmV → Prop) : Prop := ∃ v : Int, ∃ t : Int, ∃ c : Int, ∃ r : Int, ∃ (dataA : Option Addr) (datan datak : Nat), K ⟨v, t, c, r, ⟨dataA, datan, datak⟩⟩
theorem IcmV.of {K : IcmV → Prop} (h : IcmV) (hK : K h) : IcmV.ex K := by unfold IcmV.ex; exact ⟨_, _, _, _, _, _, _, hK⟩
def IcmV.z : IcmV := ⟨0, 0, 0, 0, ⟨none, 0, 0⟩⟩
theorem IcmV.one (h : IcmV) : ∀ v ∈ h.cells, v.oneCell' = true := List.all_eq_true.1 (rfl : h.cells.all Value.oneCell' = true)
structure TrbV where
  kind : Int
  extra : Int
def TrbV.cells (h : TrbV) : List Value := [.int .i64 h.kind, .int .i64 h.extra]
def TrbV.val (h : TrbV) : Value := .agg #[.int .i64 h.kind, .int .i64 h.extra]
def TrbV.ex (K : TrbV → Prop) : Prop := ∃ kind : Int, ∃ extra : Int, K ⟨kind, extra⟩
theorem TrbV.of {K : TrbV → Prop} (h : TrbV) (hK : K h) : TrbV.ex K := by unfold TrbV.ex; exact ⟨_, _, hK⟩
def TrbV.z : TrbV := ⟨0, 0⟩
theorem TrbV.one (h : TrbV) : ∀ v ∈ h.cells, v.oneCell' = true := List.all_eq_true.1 (rfl : h.cells.all Value.oneCell' = true)
def TrbV.beq (a b : TrbV) : Bool := ((decide (a.kind = b.kind)) && ((decide (a.extra = b.extra)) && true))
structure ChnV where
  exts : Sl
  frag : FragV
  next : Int
  data : Sl
def ChnV.cells (h : ChnV) : List Value := [.slice h.exts.A h.exts.n h.exts.k, .bool h.frag.has, .bool h.frag.more, .int .i64 h.frag.id, .int .i64 h.frag.off, .int .i64 h.next, .slice h.data.A h.data.n h.data.k]
def ChnV.val (h : ChnV) : Value := .agg #[.slice h.exts.A h.exts.n h.exts.k, .bool h.frag.has, .bool h.frag.more, .int .i64 h.frag.id, .int .i64 h.frag.off, .int .i64 h.next, .slice h.data.A h.data.n h.data.k]
def ChnV.ex (K : ChnV → Prop) : Prop := ∃ (extsA : Option Addr) (extsn extsk : Nat), ∃ frag_has : Bool, ∃ frag_more : Bool, ∃ frag_id : Int, ∃ frag_off : Int, ∃ next : Int, ∃ (dataA : Option Addr) (datan datak : Nat), K ⟨⟨extsA, extsn, extsk⟩, ⟨frag_has, frag_more, frag_id, frag_off⟩, next, ⟨dataA, datan, datak⟩⟩
theorem ChnV.of {K : ChnV → Prop} (h : ChnV) (hK : K h) : ChnV.ex K := by unfold ChnV.ex; exact ⟨_, _, _, _, _, _, _, _, _, _, _, hK⟩
def ChnV.z : ChnV := ⟨⟨none, 0, 0⟩, ⟨false, false, 0, 0⟩, 0, ⟨none, 0, 0⟩⟩
theorem ChnV.one (h : ChnV) : ∀ v ∈ h.cells, v.oneCell' = true := List.all_eq_true.1 (rfl : h.cells.all Value.oneCell' = true)
structure Hd4V where
  al : Int
  ke : Int
def Hd4V.cells (h : Hd4V) : List Value := [.int .i64 h.al, .int .i64 h.ke]
def Hd4V.val (h : Hd4V) : Value := .agg #[.int .i64 h.al, .int .i64 h.ke]
def Hd4V.ex (K : Hd4V → Prop) : Prop := ∃ al : Int, ∃ ke : Int, K ⟨al, ke⟩
theorem Hd4V.of {K : Hd4V → Prop} (h : Hd4V) (hK : K h) : Hd4V.ex K := by unfold Hd4V.ex; exact ⟨_, _, hK⟩
def Hd4V.z : Hd4V := ⟨0, 0⟩
theorem Hd4V.one (h : Hd4V) : ∀ v ∈ h.cells, v.oneCell' = true := List.all_eq_true.1 (rfl : h.cells.all Value.oneCell' = true)
def Hd4V.beq (a b : Hd4V) : Bool := ((decide (a.al = b.al)) && ((decide (a.ke = b.ke)) && true))
structure PieV where
  off : Int
  data : Sl
  last : Bool
def PieV.cells (h : PieV) : List Value := [.int .i64 h.off, .slice h.data.A h.data.n h.data.k, .bool h.last]
def PieV.val (h : PieV) : Value := .agg #[.int .i64 h.off, .slice h.data.A h.data.n h.data.k, .bool h.last]
def PieV.ex (K : PieV → Prop) : Prop := ∃ off : Int, ∃ (dataA : Option Addr) (datan datak : Nat), ∃ last : Bool, K ⟨off, ⟨dataA, datan, datak⟩, last⟩
theorem PieV.of {K : PieV → Prop} (h : PieV) (hK : K h) : PieV.ex K := by unfold PieV.ex; exact ⟨_, _, _, _, _, hK⟩
def PieV.z : PieV := ⟨0, ⟨none, 0, 0⟩, false⟩
theorem PieV.one (h : PieV) : ∀ v ∈ h.cells, v.oneCell' = true := List.all_eq_true.1 (rfl : h.cells.all Value.oneCell' = true)
structure KeyV where
  src : IPV
  dst : IPV
  proto : Int
  id : Int
def KeyV.cells (h : KeyV) : List Value := [.int .i64 h.src.v, .int .u8 h.src.a0, .int .u8 h.src.a1, .int .u8 h.src.a2, .int .u8 h.src.a3, .int .u8 h.src.a4, .int .u8 h.src.a5, .int .u8 h.src.a6, .int .u8 h.src.a7, .int .u8 h.src.a8, .int .u8 h.src.a9, .int .u8 h.src.a10, .int .u8 h.src.a11, .int .u8 h.src.a12, .int .u8 h.src.a13, .int .u8 h.src.a14, .int .u8 h.src.a15, .int .i64 h.dst.v, .int .u8 h.dst.a0, .int .u8 h.dst.a1, .int .u8 h.dst.a2, .int .u8 h.dst.a3, .int .u8 h.dst.a4, .int .u8 h.dst.a5, .int .u8 h.dst.a6, .int .u8 h.dst.a7, .int .u8 h.dst.a8, .int .u8 h.dst.a9, .int .u8 h.dst.a10, .int .u8 h.dst.a11, .int .u8 h.dst.a12, .int .u8 h.dst.a13, .int .u8 h.dst.a14, .int .u8 h.dst.a15, .int .i64 h.proto, .int .i64 h.id]
def KeyV.val (h : KeyV) : Value := .agg #[.int .i64 h.src.v, .int .u8 h.src.a0, .int .u8 h.src.a1, .int .u8 h.src.a2, .int .u8 h.src.a3, .int .u8 h.src.a4, .int .u8 h.src.a5, .int .u8 h.src.a6, .int .u8 h.src.a7, .int .u8 h.src.a8, .int .u8 h.src.a9, .int .u8 h.src.a10, .int .u8 h.src.a11, .int .u8 h.src.a12, .int .u8 h.src.a13, .int .u8 h.src.a14, .int .u8 h.src.a15, .int .i64 h.dst.v, .int .u8 h.dst.a0, .int .u8 h.dst.a1, .int .u8 h.dst.a2, .int .u8 h.dst.a3, .int .u8 h.dst.a4, .int .u8 h.dst.a5, .int .u8 h.dst.a6, .int .u8 h.dst.a7, .int .u8 h.dst.a8, .int .u8 h.dst.a9, .int .u8 h.dst.a10, .int .u8 h.dst.a11, .int .u8 h.dst.a12, .int .u8 h.dst.a13, .int .u8 h.dst.a14, .int .u8 h.dst.a15, .int .i64 h.proto, .int .i64 h.id]
def KeyV.ex (K : KeyV → Prop) : Prop := ∃ src_v : Int, ∃ src_a0 : Int, ∃ src_a1 : Int, ∃ src_a2 : Int, ∃ src_a3 : Int, ∃ src_a4 : Int, ∃ src_a5 : Int, ∃ src_a6 : Int, ∃ src_a7 : Int, ∃ src_a8 : Int, ∃ src_a9 : Int, ∃ src_a10 : Int, ∃ src_a11 : Int, ∃ src_a12 : Int, ∃ src_a13 : Int, ∃ src_a14 : Int, ∃ src_a15 : Int, ∃ dst_v : Int, ∃ dst_a0 : Int, ∃ dst_a1 : Int, ∃ dst_a2 : Int, ∃ dst_a3 : Int, ∃ dst_a4 : Int, ∃ dst_a5 : Int, ∃ dst_a6 : Int, ∃ dst_a7 : Int, ∃ dst_a8 : Int, ∃ dst_a9 : Int, ∃ dst_a10 : Int, ∃ dst_a11 : Int, ∃ dst_a12 : Int, ∃ dst_a13 : Int, ∃ dst_a14 : Int, ∃ dst_a15 : Int, ∃ proto : Int, ∃ id : Int, K ⟨⟨src_v, src_a0, src_a1, src_a2, src_a3, src_a4, src_a5, src_a6, src_a7, src_a8, src_a9, src_a10, src_a11, src_a12, src_a13, src_a14, src_a15⟩, ⟨dst_v, dst_a0, dst_a1, dst_a2, dst_a3, dst_a4, dst_a5, dst_a6, dst_a7, dst_a8, dst_a9, dst_a10, dst_a11, dst_a12, dst_a13, dst_a14, dst_a15⟩, proto, id⟩
theorem KeyV.of {K : KeyV → Prop} (h : KeyV) (hK : K h) : KeyV.ex K := by unfold KeyV.ex; exact ⟨_, _, _, _, _, _, _, _, _, _, _, _, _, _, _, _, _, _, _, _, _, _, _, _, _, _, _, _, _, _, _, _, _, _, _, _, hK⟩
def KeyV.z : KeyV := ⟨⟨0, 0, 0, 0, 0, 0, 0, 0, 0, 0, 0, 0, 0, 0, 0, 0, 0⟩, ⟨0, 0, 0, 0, 0, 0, 0, 0, 0, 0, 0, 0, 0, 0, 0, 0, 0⟩, 0, 0⟩
theorem KeyV.one (h : KeyV) : ∀ v ∈ h.cells, v.oneCell' = true := List.all_eq_true.1 (rfl : h.cells.all Value.oneCell' = true)
def KeyV.beq (a b : KeyV) : Bool := ((IPV.beq a.src b.src) && ((IPV.beq a.dst b.dst) && ((decide (a.proto = b.proto)) && ((decide (a.id = b.id)) && true))))
structure PcV where
  off : Int
  n : Int
  more : Bool
def PcV.cells (h : PcV) : List Value := [.int .i64 h.off, .int .i64 h.n, .bool h.more]
def PcV.val (h : PcV) : Value := .agg #[.int .i64 h.off, .int .i64 h.n, .bool h.more]
def PcV.ex (K : PcV → Prop) : Prop := ∃ off : Int, ∃ n : Int, ∃ more : Bool, K ⟨off, n, more⟩
theorem PcV.of {K : PcV → Prop} (h : PcV) (hK : K h) : PcV.ex K := by unfold PcV.ex; exact ⟨_, _, _, hK⟩
def PcV.z : PcV := ⟨0, 0, false⟩
theorem PcV.one (h : PcV) : ∀ v ∈ h.cells, v.oneCell' = true := List.all_eq_true.1 (rfl : h.cells.all Value.oneCell' = true)
def PcV.beq (a b : PcV) : Bool := ((decide (a.off = b.off)) && ((decide (a.n = b.n)) && ((a.more == b.more) && true)))
structure GapV where
  lo : Int
  hi : Int
def GapV.cells (h : GapV) : List Value := [.int .i64 h.lo, .int .i64 h.hi]
def GapV.val (h : GapV) : Value := .agg #[.int .i64 h.lo, .int .i64 h.hi]
def GapV.ex (K : GapV → Prop) : Prop := ∃ lo : Int, ∃ hi : Int, K ⟨lo, hi⟩
theorem GapV.of {K : GapV → Prop} (h : GapV) (hK : K h) : GapV.ex K := by unfold GapV.ex; exact ⟨_, _, hK⟩
def GapV.z : GapV := ⟨0, 0⟩
theorem GapV.one (h : GapV) : ∀ v ∈ h.cells, v.oneCell' = true := List.all_eq_true.1 (rfl : h.cells.all Value.oneCell' = true)
def GapV.beq (a b : GapV) : Bool := ((decide (a.lo = b.lo)) && ((decide (a.hi = b.hi)) && true))
structure FitV where
  nw : Int
  old : Int
  same : Bool
def FitV.cells (h : FitV) : List Value := [.int .i64 h.nw, .int .i64 h.old, .bool h.same]
def FitV.val (h : FitV) : Value := .agg #[.int .i64 h.nw, .int .i64 h.old, .bool h.same]
def FitV.ex (K : FitV → Prop) : Prop := ∃ nw : Int, ∃ old : Int, ∃ same : Bool, K ⟨nw, old, same⟩
theorem FitV.of {K : FitV → Prop} (h : FitV) (hK : K h) : FitV.ex K := by unfold FitV.ex; exact ⟨_, _, _, hK⟩
def FitV.z : FitV := ⟨0, 0, false⟩
theorem FitV.one (h : FitV) : ∀ v ∈ h.cells, v.oneCell' = true := List.all_eq_true.1 (rfl : h.cells.all Value.oneCell' = true)
def FitV.beq (a b : FitV) : Bool := ((decide (a.nw = b.nw)) && ((decide (a.old = b.old)) && ((a.same == b.same) && true)))
structure LaidV where
  c : Option Addr
  fresh : Bool
  fit : FitV
  fin : Bool
def LaidV.cells (h : LaidV) : List Value := [.pointer h.c, .bool h.fresh, .int .i64 h.fit.nw, .int .i64 h.fit.old, .bool h.fit.same, .bool h.fin]
def LaidV.val (h : LaidV) : Value := .agg #[.pointer h.c, .bool h.fresh, .int .i64 h.fit.nw, .int .i64 h.fit.old, .bool h.fit.same, .bool h.fin]
def LaidV.ex (K : LaidV → Prop) : Prop := ∃ c : Option Addr, ∃ fresh : Bool, ∃ fit_nw : Int, ∃ fit_old : Int, ∃ fit_same : Bool, ∃ fin : Bool, K ⟨c, fresh, ⟨fit_nw, fit_old, fit_same⟩, fin⟩
theorem LaidV.of {K : LaidV → Prop} (h : LaidV) (hK : K h) : LaidV.ex K := by unfold LaidV.ex; exact ⟨_, _, _, _, _, _, hK⟩
def LaidV.z : LaidV := ⟨none, false, ⟨0, 0, false⟩, false⟩
theorem LaidV.one (h : LaidV) : ∀ v ∈ h.cells, v.oneCell' = true := List.all_eq_true.1 (rfl : h.cells.all Value.oneCell' = true)
structure CtxV where
  key : KeyV
  began : Int
  left : Int
  state : Int
  why : Int
  holes : Option Addr
  frags : Int
  first : Bool
  h4 : Ip4V
  h6 : Ip6V
def CtxV.cells (h : CtxV) : List Value := [.int .i64 h.key.src.v, .int .u8 h.key.src.a0, .int .u8 h.key.src.a1, .int .u8 h.key.src.a2, .int .u8 h.key.src.a3, .int .u8 h.key.src.a4, .int .u8 h.key.src.a5, .int .u8 h.key.src.a6, .int .u8 h.key.src.a7, .int .u8 h.key.src.a8, .int .u8 h.key.src.a9, .int .u8 h.key.src.a10, .int .u8 h.key.src.a11, .int .u8 h.key.src.a12, .int .u8 h.key.src.a13, .int .u8 h.key.src.a14, .int .u8 h.key.src.a15, .int .i64 h.key.dst.v, .int .u8 h.key.dst.a0, .int .u8 h.key.dst.a1, .int .u8 h.key.dst.a2, .int .u8 h.key.dst.a3, .int .u8 h.key.dst.a4, .int .u8 h.key.dst.a5, .int .u8 h.key.dst.a6, .int .u8 h.key.dst.a7, .int .u8 h.key.dst.a8, .int .u8 h.key.dst.a9, .int .u8 h.key.dst.a10, .int .u8 h.key.dst.a11, .int .u8 h.key.dst.a12, .int .u8 h.key.dst.a13, .int .u8 h.key.dst.a14, .int .u8 h.key.dst.a15, .int .i64 h.key.proto, .int .i64 h.key.id, .int .i64 h.began, .int .i64 h.left, .int .i64 h.state, .int .i64 h.why, .pointer h.holes, .int .i64 h.frags, .bool h.first, .int .i64 h.h4.tos, .int .i64 h.h4.id, .bool h.h4.df, .bool h.h4.mf, .int .i64 h.h4.off, .int .i64 h.h4.ttl, .int .i64 h.h4.proto, .int .i64 h.h4.src.v, .int .u8 h.h4.src.a0, .int .u8 h.h4.src.a1, .int .u8 h.h4.src.a2, .int .u8 h.h4.src.a3, .int .u8 h.h4.src.a4, .int .u8 h.h4.src.a5, .int .u8 h.h4.src.a6, .int .u8 h.h4.src.a7, .int .u8 h.h4.src.a8, .int .u8 h.h4.src.a9, .int .u8 h.h4.src.a10, .int .u8 h.h4.src.a11, .int .u8 h.h4.src.a12, .int .u8 h.h4.src.a13, .int .u8 h.h4.src.a14, .int .u8 h.h4.src.a15, .int .i64 h.h4.dst.v, .int .u8 h.h4.dst.a0, .int .u8 h.h4.dst.a1, .int .u8 h.h4.dst.a2, .int .u8 h.h4.dst.a3, .int .u8 h.h4.dst.a4, .int .u8 h.h4.dst.a5, .int .u8 h.h4.dst.a6, .int .u8 h.h4.dst.a7, .int .u8 h.h4.dst.a8, .int .u8 h.h4.dst.a9, .int .u8 h.h4.dst.a10, .int .u8 h.h4.dst.a11, .int .u8 h.h4.dst.a12, .int .u8 h.h4.dst.a13, .int .u8 h.h4.dst.a14, .int .u8 h.h4.dst.a15, .slice h.h4.opts.A h.h4.opts.n h.h4.opts.k, .slice h.h4.data.A h.h4.data.n h.h4.data.k, .int .i64 h.h6.cls, .int .i64 h.h6.flow, .int .i64 h.h6.hop, .int .i64 h.h6.src.v, .int .u8 h.h6.src.a0, .int .u8 h.h6.src.a1, .int .u8 h.h6.src.a2, .int .u8 h.h6.src.a3, .int .u8 h.h6.src.a4, .int .u8 h.h6.src.a5, .int .u8 h.h6.src.a6, .int .u8 h.h6.src.a7, .int .u8 h.h6.src.a8, .int .u8 h.h6.src.a9, .int .u8 h.h6.src.a10, .int .u8 h.h6.src.a11, .int .u8 h.h6.src.a12, .int .u8 h.h6.src.a13, .int .u8 h.h6.src.a14, .int .u8 h.h6.src.a15, .int .i64 h.h6.dst.v, .int .u8 h.h6.dst.a0, .int .u8 h.h6.dst.a1, .int .u8 h.h6.dst.a2, .int .u8 h.h6.dst.a3, .int .u8 h.h6.dst.a4, .int .u8 h.h6.dst.a5, .int .u8 h.h6.dst.a6, .int .u8 h.h6.dst.a7, .int .u8 h.h6.dst.a8, .int .u8 h.h6.dst.a9, .int .u8 h.h6.dst.a10, .int .u8 h.h6.dst.a11, .int .u8 h.h6.dst.a12, .int .u8 h.h6.dst.a13, .int .u8 h.h6.dst.a14, .int .u8 h.h6.dst.a15, .slice h.h6.exts.A h.h6.exts.n h.h6.exts.k, .bool h.h6.frag.has, .bool h.h6.frag.more, .int .i64 h.h6.frag.id, .int .i64 h.h6.frag.off, .int .i64 h.h6.next, .slice h.h6.data.A h.h6.data.n h.h6.data.k]
def CtxV.val (h : CtxV) : Value := .agg #[.int .i64 h.key.src.v, .int .u8 h.key.src.a0, .int .u8 h.key.src.a1, .int .u8 h.key.src.a2, .int .u8 h.key.src.a3, .int .u8 h.key.src.a4, .int .u8 h.key.src.a5, .int .u8 h.key.src.a6, .int .u8 h.key.src.a7, .int .u8 h.key.src.a8, .int .u8 h.key.src.a9, .int .u8 h.key.src.a10, .int .u8 h.key.src.a11, .int .u8 h.key.src.a12, .int .u8 h.key.src.a13, .int .u8 h.key.src.a14, .int .u8 h.key.src.a15, .int .i64 h.key.dst.v, .int .u8 h.key.dst.a0, .int .u8 h.key.dst.a1, .int .u8 h.key.dst.a2, .int .u8 h.key.dst.a3, .int .u8 h.key.dst.a4, .int .u8 h.key.dst.a5, .int .u8 h.key.dst.a6, .int .u8 h.key.dst.a7, .int .u8 h.key.dst.a8, .int .u8 h.key.dst.a9, .int .u8 h.key.dst.a10, .int .u8 h.key.dst.a11, .int .u8 h.key.dst.a12, .int .u8 h.key.dst.a13, .int .u8 h.key.dst.a14, .int .u8 h.key.dst.a15, .int .i64 h.key.proto, .int .i64 h.key.id, .int .i64 h.began, .int .i64 h.left, .int .i64 h.state, .int .i64 h.why, .pointer h.holes, .int .i64 h.frags, .bool h.first, .int .i64 h.h4.tos, .int .i64 h.h4.id, .bool h.h4.df, .bool h.h4.mf, .int .i64 h.h4.off, .int .i64 h.h4.ttl, .int .i64 h.h4.proto, .int .i64 h.h4.src.v, .int .u8 h.h4.src.a0, .int .u8 h.h4.src.a1, .int .u8 h.h4.src.a2, .int .u8 h.h4.src.a3, .int .u8 h.h4.src.a4, .int .u8 h.h4.src.a5, .int .u8 h.h4.src.a6, .int .u8 h.h4.src.a7, .int .u8 h.h4.src.a8, .int .u8 h.h4.src.a9, .int .u8 h.h4.src.a10, .int .u8 h.h4.src.a11, .int .u8 h.h4.src.a12, .int .u8 h.h4.src.a13, .int .u8 h.h4.src.a14, .int .u8 h.h4.src.a15, .int .i64 h.h4.dst.v, .int .u8 h.h4.dst.a0, .int .u8 h.h4.dst.a1, .int .u8 h.h4.dst.a2, .int .u8 h.h4.dst.a3, .int .u8 h.h4.dst.a4, .int .u8 h.h4.dst.a5, .int .u8 h.h4.dst.a6, .int .u8 h.h4.dst.a7, .int .u8 h.h4.dst.a8, .int .u8 h.h4.dst.a9, .int .u8 h.h4.dst.a10, .int .u8 h.h4.dst.a11, .int .u8 h.h4.dst.a12, .int .u8 h.h4.dst.a13, .int .u8 h.h4.dst.a14, .int .u8 h.h4.dst.a15, .slice h.h4.opts.A h.h4.opts.n h.h4.opts.k, .slice h.h4.data.A h.h4.data.n h.h4.data.k, .int .i64 h.h6.cls, .int .i64 h.h6.flow, .int .i64 h.h6.hop, .int .i64 h.h6.src.v, .int .u8 h.h6.src.a0, .int .u8 h.h6.src.a1, .int .u8 h.h6.src.a2, .int .u8 h.h6.src.a3, .int .u8 h.h6.src.a4, .int .u8 h.h6.src.a5, .int .u8 h.h6.src.a6, .int .u8 h.h6.src.a7, .int .u8 h.h6.src.a8, .int .u8 h.h6.src.a9, .int .u8 h.h6.src.a10, .int .u8 h.h6.src.a11, .int .u8 h.h6.src.a12, .int .u8 h.h6.src.a13, .int .u8 h.h6.src.a14, .int .u8 h.h6.src.a15, .int .i64 h.h6.dst.v, .int .u8 h.h6.dst.a0, .int .u8 h.h6.dst.a1, .int .u8 h.h6.dst.a2, .int .u8 h.h6.dst.a3, .int .u8 h.h6.dst.a4, .int .u8 h.h6.dst.a5, .int .u8 h.h6.dst.a6, .int .u8 h.h6.dst.a7, .int .u8 h.h6.dst.a8, .int .u8 h.h6.dst.a9, .int .u8 h.h6.dst.a10, .int .u8 h.h6.dst.a11, .int .u8 h.h6.dst.a12, .int .u8 h.h6.dst.a13, .int .u8 h.h6.dst.a14, .int .u8 h.h6.dst.a15, .slice h.h6.exts.A h.h6.exts.n h.h6.exts.k, .bool h.h6.frag.has, .bool h.h6.frag.more, .int .i64 h.h6.frag.id, .int .i64 h.h6.frag.off, .int .i64 h.h6.next, .slice h.h6.data.A h.h6.data.n h.h6.data.k]
def CtxV.z : CtxV := ⟨⟨⟨0, 0, 0, 0, 0, 0, 0, 0, 0, 0, 0, 0, 0, 0, 0, 0, 0⟩, ⟨0, 0, 0, 0, 0, 0, 0, 0, 0, 0, 0, 0, 0, 0, 0, 0, 0⟩, 0, 0⟩, 0, 0, 0, 0, none, 0, false, ⟨0, 0, false, false, 0, 0, 0, ⟨0, 0, 0, 0, 0, 0, 0, 0, 0, 0, 0, 0, 0, 0, 0, 0, 0⟩, ⟨0, 0, 0, 0, 0, 0, 0, 0, 0, 0, 0, 0, 0, 0, 0, 0, 0⟩, ⟨none, 0, 0⟩, ⟨none, 0, 0⟩⟩, ⟨0, 0, 0, ⟨0, 0, 0, 0, 0, 0, 0, 0, 0, 0, 0, 0, 0, 0, 0, 0, 0⟩, ⟨0, 0, 0, 0, 0, 0, 0, 0, 0, 0, 0, 0, 0, 0, 0, 0, 0⟩, ⟨none, 0, 0⟩, ⟨false, false, 0, 0⟩, 0, ⟨none, 0, 0⟩⟩⟩
theorem CtxV.one (h : CtxV) : ∀ v ∈ h.cells, v.oneCell' = true := List.all_eq_true.1 (rfl : h.cells.all Value.oneCell' = true)
structure LateV where
  v : Int
  frags : Int
  first : Bool
  h4 : Ip4V
  h6 : Ip6V
def LateV.cells (h : LateV) : List Value := [.int .i64 h.v, .int .i64 h.frags, .bool h.first, .int .i64 h.h4.tos, .int .i64 h.h4.id, .bool h.h4.df, .bool h.h4.mf, .int .i64 h.h4.off, .int .i64 h.h4.ttl, .int .i64 h.h4.proto, .int .i64 h.h4.src.v, .int .u8 h.h4.src.a0, .int .u8 h.h4.src.a1, .int .u8 h.h4.src.a2, .int .u8 h.h4.src.a3, .int .u8 h.h4.src.a4, .int .u8 h.h4.src.a5, .int .u8 h.h4.src.a6, .int .u8 h.h4.src.a7, .int .u8 h.h4.src.a8, .int .u8 h.h4.src.a9, .int .u8 h.h4.src.a10, .int .u8 h.h4.src.a11, .int .u8 h.h4.src.a12, .int .u8 h.h4.src.a13, .int .u8 h.h4.src.a14, .int .u8 h.h4.src.a15, .int .i64 h.h4.dst.v, .int .u8 h.h4.dst.a0, .int .u8 h.h4.dst.a1, .int .u8 h.h4.dst.a2, .int .u8 h.h4.dst.a3, .int .u8 h.h4.dst.a4, .int .u8 h.h4.dst.a5, .int .u8 h.h4.dst.a6, .int .u8 h.h4.dst.a7, .int .u8 h.h4.dst.a8, .int .u8 h.h4.dst.a9, .int .u8 h.h4.dst.a10, .int .u8 h.h4.dst.a11, .int .u8 h.h4.dst.a12, .int .u8 h.h4.dst.a13, .int .u8 h.h4.dst.a14, .int .u8 h.h4.dst.a15, .slice h.h4.opts.A h.h4.opts.n h.h4.opts.k, .slice h.h4.data.A h.h4.data.n h.h4.data.k, .int .i64 h.h6.cls, .int .i64 h.h6.flow, .int .i64 h.h6.hop, .int .i64 h.h6.src.v, .int .u8 h.h6.src.a0, .int .u8 h.h6.src.a1, .int .u8 h.h6.src.a2, .int .u8 h.h6.src.a3, .int .u8 h.h6.src.a4, .int .u8 h.h6.src.a5, .int .u8 h.h6.src.a6, .int .u8 h.h6.src.a7, .int .u8 h.h6.src.a8, .int .u8 h.h6.src.a9, .int .u8 h.h6.src.a10, .int .u8 h.h6.src.a11, .int .u8 h.h6.src.a12, .int .u8 h.h6.src.a13, .int .u8 h.h6.src.a14, .int .u8 h.h6.src.a15, .int .i64 h.h6.dst.v, .int .u8 h.h6.dst.a0, .int .u8 h.h6.dst.a1, .int .u8 h.h6.dst.a2, .int .u8 h.h6.dst.a3, .int .u8 h.h6.dst.a4, .int .u8 h.h6.dst.a5, .int .u8 h.h6.dst.a6, .int .u8 h.h6.dst.a7, .int .u8 h.h6.dst.a8, .int .u8 h.h6.dst.a9, .int .u8 h.h6.dst.a10, .int .u8 h.h6.dst.a11, .int .u8 h.h6.dst.a12, .int .u8 h.h6.dst.a13, .int .u8 h.h6.dst.a14, .int .u8 h.h6.dst.a15, .slice h.h6.exts.A h.h6.exts.n h.h6.exts.k, .bool h.h6.frag.has, .bool h.h6.frag.more, .int .i64 h.h6.frag.id, .int .i64 h.h6.frag.off, .int .i64 h.h6.next, .slice h.h6.data.A h.h6.data.n h.h6.data.k]
def LateV.val (h : LateV) : Value := .agg #[.int .i64 h.v, .int .i64 h.frags, .bool h.first, .int .i64 h.h4.tos, .int .i64 h.h4.id, .bool h.h4.df, .bool h.h4.mf, .int .i64 h.h4.off, .int .i64 h.h4.ttl, .int .i64 h.h4.proto, .int .i64 h.h4.src.v, .int .u8 h.h4.src.a0, .int .u8 h.h4.src.a1, .int .u8 h.h4.src.a2, .int .u8 h.h4.src.a3, .int .u8 h.h4.src.a4, .int .u8 h.h4.src.a5, .int .u8 h.h4.src.a6, .int .u8 h.h4.src.a7, .int .u8 h.h4.src.a8, .int .u8 h.h4.src.a9, .int .u8 h.h4.src.a10, .int .u8 h.h4.src.a11, .int .u8 h.h4.src.a12, .int .u8 h.h4.src.a13, .int .u8 h.h4.src.a14, .int .u8 h.h4.src.a15, .int .i64 h.h4.dst.v, .int .u8 h.h4.dst.a0, .int .u8 h.h4.dst.a1, .int .u8 h.h4.dst.a2, .int .u8 h.h4.dst.a3, .int .u8 h.h4.dst.a4, .int .u8 h.h4.dst.a5, .int .u8 h.h4.dst.a6, .int .u8 h.h4.dst.a7, .int .u8 h.h4.dst.a8, .int .u8 h.h4.dst.a9, .int .u8 h.h4.dst.a10, .int .u8 h.h4.dst.a11, .int .u8 h.h4.dst.a12, .int .u8 h.h4.dst.a13, .int .u8 h.h4.dst.a14, .int .u8 h.h4.dst.a15, .slice h.h4.opts.A h.h4.opts.n h.h4.opts.k, .slice h.h4.data.A h.h4.data.n h.h4.data.k, .int .i64 h.h6.cls, .int .i64 h.h6.flow, .int .i64 h.h6.hop, .int .i64 h.h6.src.v, .int .u8 h.h6.src.a0, .int .u8 h.h6.src.a1, .int .u8 h.h6.src.a2, .int .u8 h.h6.src.a3, .int .u8 h.h6.src.a4, .int .u8 h.h6.src.a5, .int .u8 h.h6.src.a6, .int .u8 h.h6.src.a7, .int .u8 h.h6.src.a8, .int .u8 h.h6.src.a9, .int .u8 h.h6.src.a10, .int .u8 h.h6.src.a11, .int .u8 h.h6.src.a12, .int .u8 h.h6.src.a13, .int .u8 h.h6.src.a14, .int .u8 h.h6.src.a15, .int .i64 h.h6.dst.v, .int .u8 h.h6.dst.a0, .int .u8 h.h6.dst.a1, .int .u8 h.h6.dst.a2, .int .u8 h.h6.dst.a3, .int .u8 h.h6.dst.a4, .int .u8 h.h6.dst.a5, .int .u8 h.h6.dst.a6, .int .u8 h.h6.dst.a7, .int .u8 h.h6.dst.a8, .int .u8 h.h6.dst.a9, .int .u8 h.h6.dst.a10, .int .u8 h.h6.dst.a11, .int .u8 h.h6.dst.a12, .int .u8 h.h6.dst.a13, .int .u8 h.h6.dst.a14, .int .u8 h.h6.dst.a15, .slice h.h6.exts.A h.h6.exts.n h.h6.exts.k, .bool h.h6.frag.has, .bool h.h6.frag.more, .int .i64 h.h6.frag.id, .int .i64 h.h6.frag.off, .int .i64 h.h6.next, .slice h.h6.data.A h.h6.data.n h.h6.data.k]
def LateV.ex (K : LateV → Prop) : Prop := ∃ v : Int, ∃ frags : Int, ∃ first : Bool, ∃ h4_tos : Int, ∃ h4_id : Int, ∃ h4_df : Bool, ∃ h4_mf : Bool, ∃ h4_off : Int, ∃ h4_ttl : Int, ∃ h4_proto : Int, ∃ h4_src_v : Int, ∃ h4_src_a0 : Int, ∃ h4_src_a1 : Int, ∃ h4_src_a2 : Int, ∃ h4_src_a3 : Int, ∃ h4_src_a4 : Int, ∃ h4_src_a5 : Int, ∃ h4_src_a6 : Int, ∃ h4_src_a7 : Int, ∃ h4_src_a8 : Int, ∃ h4_src_a9 : Int, ∃ h4_src_a10 : Int, ∃ h4_src_a11 : Int, ∃ h4_src_a12 : Int, ∃ h4_src_a13 : Int, ∃ h4_src_a14 : Int, ∃ h4_src_a15 : Int, ∃ h4_dst_v : Int, ∃ h4_dst_a0 : Int, ∃ h4_dst_a1 : Int, ∃ h4_dst_a2 : Int, ∃ h4_dst_a3 : Int, ∃ h4_dst_a4 : Int, ∃ h4_dst_a5 : Int, ∃ h4_dst_a6 : Int, ∃ h4_dst_a7 : Int, ∃ h4_dst_a8 : Int, ∃ h4_dst_a9 : Int, ∃ h4_dst_a10 : Int, ∃ h4_dst_a11 : Int, ∃ h4_dst_a12 : Int, ∃ h4_dst_a13 : Int, ∃ h4_dst_a14 : Int, ∃ h4_dst_a15 : Int, ∃ (h4_optsA : Option Addr) (h4_optsn h4_optsk : Nat), ∃ (h4_dataA : Option Addr) (h4_datan h4_datak : Nat), ∃ h6_cls : Int, ∃ h6_flow : Int, ∃ h6_hop : Int, ∃ h6_src_v : Int, ∃ h6_src_a0 : Int, ∃ h6_src_a1 : Int, ∃ h6_src_a2 : Int, ∃ h6_src_a3 : Int, ∃ h6_src_a4 : Int, ∃ h6_src_a5 : Int, ∃ h6_src_a6 : Int, ∃ h6_src_a7 : Int, ∃ h6_src_a8 : Int, ∃ h6_src_a9 : Int, ∃ h6_src_a10 : Int, ∃ h6_src_a11 : Int, ∃ h6_src_a12 : Int, ∃ h6_src_a13 : Int, ∃ h6_src_a14 : Int, ∃ h6_src_a15 : Int, ∃ h6_dst_v : Int, ∃ h6_dst_a0 : Int, ∃ h6_dst_a1 : Int, ∃ h6_dst_a2 : Int, ∃ h6_dst_a3 : Int, ∃ h6_dst_a4 : Int, ∃ h6_dst_a5 : Int, ∃ h6_dst_a6 : Int, ∃ h6_dst_a7 : Int, ∃ h6_dst_a8 : Int, ∃ h6_dst_a9 : Int, ∃ h6_dst_a10 : Int, ∃ h6_dst_a11 : Int, ∃ h6_dst_a12 : Int, ∃ h6_dst_a13 : Int, ∃ h6_dst_a14 : Int, ∃ h6_dst_a15 : Int, ∃ (h6_extsA : Option Addr) (h6_extsn h6_extsk : Nat), ∃ h6_frag_has : Bool, ∃ h6_frag_more : Bool, ∃ h6_frag_id : Int, ∃ h6_frag_off : Int, ∃ h6_next : Int, ∃ (h6_dataA : Option Addr) (h6_datan h6_datak : Nat), K ⟨v, frags, first, ⟨h4_tos, h4_id, h4_df, h4_mf, h4_off, h4_ttl, h4_proto, ⟨h4_src_v, h4_src_a0, h4_src_a1, h4_src_a2, h4_src_a3, h4_src_a4, h4_src_a5, h4_src_a6, h4_src_a7, h4_src_a8, h4_src_a9, h4_src_a10, h4_src_a11, h4_src_a12, h4_src_a13, h4_src_a14, h4_src_a15⟩, ⟨h4_dst_v, h4_dst_a0, h4_dst_a1, h4_dst_a2, h4_dst_a3, h4_dst_a4, h4_dst_a5, h4_dst_a6, h4_dst_a7, h4_dst_a8, h4_dst_a9, h4_dst_a10, h4_dst_a11, h4_dst_a12, h4_dst_a13, h4_dst_a14, h4_dst_a15⟩, ⟨h4_optsA, h4_optsn, h4_optsk⟩, ⟨h4_dataA, h4_datan, h4_datak⟩⟩, ⟨h6_cls, h6_flow, h6_hop, ⟨h6_src_v, h6_src_a0, h6_src_a1, h6_src_a2, h6_src_a3, h6_src_a4, h6_src_a5, h6_src_a6, h6_src_a7, h6_src_a8, h6_src_a9, h6_src_a10, h6_src_a11, h6_src_a12, h6_src_a13, h6_src_a14, h6_src_a15⟩, ⟨h6_dst_v, h6_dst_a0, h6_dst_a1, h6_dst_a2, h6_dst_a3, h6_dst_a4, h6_dst_a5, h6_dst_a6, h6_dst_a7, h6_dst_a8, h6_dst_a9, h6_dst_a10, h6_dst_a11, h6_dst_a12, h6_dst_a13, h6_dst_a14, h6_dst_a15⟩, ⟨h6_extsA, h6_extsn, h6_extsk⟩, ⟨h6_frag_has, h6_frag_more, h6_frag_id, h6_frag_off⟩, h6_next, ⟨h6_dataA, h6_datan, h6_datak⟩⟩⟩
theorem LateV.of {K : LateV → Prop} (h : LateV) (hK : K h) : LateV.ex K := by unfold LateV.ex; exact ⟨_, _, _, _, _, _, _, _, _, _, _, _, _, _, _, _, _, _, _, _, _, _, _, _, _, _, _, _, _, _, _, _, _, _, _, _, _, _, _, _, _, _, _, _, _, _, _, _, _, _, _, _, _, _, _, _, _, _, _, _, _, _, _, _, _, _, _, _, _, _, _, _, _, _, _, _, _, _, _, _, _, _, _, _, _, _, _, _, _, _, _, _, _, _, _, _, _, _, hK⟩
def LateV.z : LateV := ⟨0, 0, false, ⟨0, 0, false, false, 0, 0, 0, ⟨0, 0, 0, 0, 0, 0, 0, 0, 0, 0, 0, 0, 0, 0, 0, 0, 0⟩, ⟨0, 0, 0, 0, 0, 0, 0, 0, 0, 0, 0, 0, 0, 0, 0, 0, 0⟩, ⟨none, 0, 0⟩, ⟨none, 0, 0⟩⟩, ⟨0, 0, 0, ⟨0, 0, 0, 0, 0, 0, 0, 0, 0, 0, 0, 0, 0, 0, 0, 0, 0⟩, ⟨0, 0, 0, 0, 0, 0, 0, 0, 0, 0, 0, 0, 0, 0, 0, 0, 0⟩, ⟨none, 0, 0⟩, ⟨false, false, 0, 0⟩, 0, ⟨none, 0, 0⟩⟩⟩
theorem LateV.one (h : LateV) : ∀ v ∈ h.cells, v.oneCell' = true := List.all_eq_true.1 (rfl : h.cells.all Value.oneCell' = true)
structure Op7V where
  kind : Int
  b : Sl
  h : Ip6V
  n : Int
def Op7V.cells (h : Op7V) : List Value := [.int .i64 h.kind, .slice h.b.A h.b.n h.b.k, .int .i64 h.h.cls, .int .i64 h.h.flow, .int .i64 h.h.hop, .int .i64 h.h.src.v, .int .u8 h.h.src.a0, .int .u8 h.h.src.a1, .int .u8 h.h.src.a2, .int .u8 h.h.src.a3, .int .u8 h.h.src.a4, .int .u8 h.h.src.a5, .int .u8 h.h.src.a6, .int .u8 h.h.src.a7, .int .u8 h.h.src.a8, .int .u8 h.h.src.a9, .int .u8 h.h.src.a10, .int .u8 h.h.src.a11, .int .u8 h.h.src.a12, .int .u8 h.h.src.a13, .int .u8 h.h.src.a14, .int .u8 h.h.src.a15, .int .i64 h.h.dst.v, .int .u8 h.h.dst.a0, .int .u8 h.h.dst.a1, .int .u8 h.h.dst.a2, .int .u8 h.h.dst.a3, .int .u8 h.h.dst.a4, .int .u8 h.h.dst.a5, .int .u8 h.h.dst.a6, .int .u8 h.h.dst.a7, .int .u8 h.h.dst.a8, .int .u8 h.h.dst.a9, .int .u8 h.h.dst.a10, .int .u8 h.h.dst.a11, .int .u8 h.h.dst.a12, .int .u8 h.h.dst.a13, .int .u8 h.h.dst.a14, .int .u8 h.h.dst.a15, .slice h.h.exts.A h.h.exts.n h.h.exts.k, .bool h.h.frag.has, .bool h.h.frag.more, .int .i64 h.h.frag.id, .int .i64 h.h.frag.off, .int .i64 h.h.next, .slice h.h.data.A h.h.data.n h.h.data.k, .int .i64 h.n]
def Op7V.val (h : Op7V) : Value := .agg #[.int .i64 h.kind, .slice h.b.A h.b.n h.b.k, .int .i64 h.h.cls, .int .i64 h.h.flow, .int .i64 h.h.hop, .int .i64 h.h.src.v, .int .u8 h.h.src.a0, .int .u8 h.h.src.a1, .int .u8 h.h.src.a2, .int .u8 h.h.src.a3, .int .u8 h.h.src.a4, .int .u8 h.h.src.a5, .int .u8 h.h.src.a6, .int .u8 h.h.src.a7, .int .u8 h.h.src.a8, .int .u8 h.h.src.a9, .int .u8 h.h.src.a10, .int .u8 h.h.src.a11, .int .u8 h.h.src.a12, .int .u8 h.h.src.a13, .int .u8 h.h.src.a14, .int .u8 h.h.src.a15, .int .i64 h.h.dst.v, .int .u8 h.h.dst.a0, .int .u8 h.h.dst.a1, .int .u8 h.h.dst.a2, .int .u8 h.h.dst.a3, .int .u8 h.h.dst.a4, .int .u8 h.h.dst.a5, .int .u8 h.h.dst.a6, .int .u8 h.h.dst.a7, .int .u8 h.h.dst.a8, .int .u8 h.h.dst.a9, .int .u8 h.h.dst.a10, .int .u8 h.h.dst.a11, .int .u8 h.h.dst.a12, .int .u8 h.h.dst.a13, .int .u8 h.h.dst.a14, .int .u8 h.h.dst.a15, .slice h.h.exts.A h.h.exts.n h.h.exts.k, .bool h.h.frag.has, .bool h.h.frag.more, .int .i64 h.h.frag.id, .int .i64 h.h.frag.off, .int .i64 h.h.next, .slice h.h.data.A h.h.data.n h.h.data.k, .int .i64 h.n]
def Op7V.ex (K : Op7V → Prop) : Prop := ∃ kind : Int, ∃ (bA : Option Addr) (bn bk : Nat), ∃ h_cls : Int, ∃ h_flow : Int, ∃ h_hop : Int, ∃ h_src_v : Int, ∃ h_src_a0 : Int, ∃ h_src_a1 : Int, ∃ h_src_a2 : Int, ∃ h_src_a3 : Int, ∃ h_src_a4 : Int, ∃ h_src_a5 : Int, ∃ h_src_a6 : Int, ∃ h_src_a7 : Int, ∃ h_src_a8 : Int, ∃ h_src_a9 : Int, ∃ h_src_a10 : Int, ∃ h_src_a11 : Int, ∃ h_src_a12 : Int, ∃ h_src_a13 : Int, ∃ h_src_a14 : Int, ∃ h_src_a15 : Int, ∃ h_dst_v : Int, ∃ h_dst_a0 : Int, ∃ h_dst_a1 : Int, ∃ h_dst_a2 : Int, ∃ h_dst_a3 : Int, ∃ h_dst_a4 : Int, ∃ h_dst_a5 : Int, ∃ h_dst_a6 : Int, ∃ h_dst_a7 : Int, ∃ h_dst_a8 : Int, ∃ h_dst_a9 : Int, ∃ h_dst_a10 : Int, ∃ h_dst_a11 : Int, ∃ h_dst_a12 : Int, ∃ h_dst_a13 : Int, ∃ h_dst_a14 : Int, ∃ h_dst_a15 : Int, ∃ (h_extsA : Option Addr) (h_extsn h_extsk : Nat), ∃ h_frag_has : Bool, ∃ h_frag_more : Bool, ∃ h_frag_id : Int, ∃ h_frag_off : Int, ∃ h_next : Int, ∃ (h_dataA : Option Addr) (h_datan h_datak : Nat), ∃ n : Int, K ⟨kind, ⟨bA, bn, bk⟩, ⟨h_cls, h_flow, h_hop, ⟨h_src_v, h_src_a0, h_src_a1, h_src_a2, h_src_a3, h_src_a4, h_src_a5, h_src_a6, h_src_a7, h_src_a8, h_src_a9, h_src_a10, h_src_a11, h_src_a12, h_src_a13, h_src_a14, h_src_a15⟩, ⟨h_dst_v, h_dst_a0, h_dst_a1, h_dst_a2, h_dst_a3, h_dst_a4, h_dst_a5, h_dst_a6, h_dst_a7, h_dst_a8, h_dst_a9, h_dst_a10, h_dst_a11, h_dst_a12, h_dst_a13, h_dst_a14, h_dst_a15⟩, ⟨h_extsA, h_extsn, h_extsk⟩, ⟨h_frag_has, h_frag_more, h_frag_id, h_frag_off⟩, h_next, ⟨h_dataA, h_datan, h_datak⟩⟩, n⟩
theorem Op7V.of {K : Op7V → Prop} (h : Op7V) (hK : K h) : Op7V.ex K := by unfold Op7V.ex; exact ⟨_, _, _, _, _, _, _, _, _, _, _, _, _, _, _, _, _, _, _, _, _, _, _, _, _, _, _, _, _, _, _, _, _, _, _, _, _, _, _, _, _, _, _, _, _, _, _, _, _, _, _, _, _, hK⟩
def Op7V.z : Op7V := ⟨0, ⟨none, 0, 0⟩, ⟨0, 0, 0, ⟨0, 0, 0, 0, 0, 0, 0, 0, 0, 0, 0, 0, 0, 0, 0, 0, 0⟩, ⟨0, 0, 0, 0, 0, 0, 0, 0, 0, 0, 0, 0, 0, 0, 0, 0, 0⟩, ⟨none, 0, 0⟩, ⟨false, false, 0, 0⟩, 0, ⟨none, 0, 0⟩⟩, 0⟩
theorem Op7V.one (h : Op7V) : ∀ v ∈ h.cells, v.oneCell' = true := List.all_eq_true.1 (rfl : h.cells.all Value.oneCell' = true)
structure Op13V where
  six : Bool
  h4 : Ip4V
  h6 : Ip6V
  mtu : Int
  id : Int
def Op13V.cells (h : Op13V) : List Value := [.bool h.six, .int .i64 h.h4.tos, .int .i64 h.h4.id, .bool h.h4.df, .bool h.h4.mf, .int .i64 h.h4.off, .int .i64 h.h4.ttl, .int .i64 h.h4.proto, .int .i64 h.h4.src.v, .int .u8 h.h4.src.a0, .int .u8 h.h4.src.a1, .int .u8 h.h4.src.a2, .int .u8 h.h4.src.a3, .int .u8 h.h4.src.a4, .int .u8 h.h4.src.a5, .int .u8 h.h4.src.a6, .int .u8 h.h4.src.a7, .int .u8 h.h4.src.a8, .int .u8 h.h4.src.a9, .int .u8 h.h4.src.a10, .int .u8 h.h4.src.a11, .int .u8 h.h4.src.a12, .int .u8 h.h4.src.a13, .int .u8 h.h4.src.a14, .int .u8 h.h4.src.a15, .int .i64 h.h4.dst.v, .int .u8 h.h4.dst.a0, .int .u8 h.h4.dst.a1, .int .u8 h.h4.dst.a2, .int .u8 h.h4.dst.a3, .int .u8 h.h4.dst.a4, .int .u8 h.h4.dst.a5, .int .u8 h.h4.dst.a6, .int .u8 h.h4.dst.a7, .int .u8 h.h4.dst.a8, .int .u8 h.h4.dst.a9, .int .u8 h.h4.dst.a10, .int .u8 h.h4.dst.a11, .int .u8 h.h4.dst.a12, .int .u8 h.h4.dst.a13, .int .u8 h.h4.dst.a14, .int .u8 h.h4.dst.a15, .slice h.h4.opts.A h.h4.opts.n h.h4.opts.k, .slice h.h4.data.A h.h4.data.n h.h4.data.k, .int .i64 h.h6.cls, .int .i64 h.h6.flow, .int .i64 h.h6.hop, .int .i64 h.h6.src.v, .int .u8 h.h6.src.a0, .int .u8 h.h6.src.a1, .int .u8 h.h6.src.a2, .int .u8 h.h6.src.a3, .int .u8 h.h6.src.a4, .int .u8 h.h6.src.a5, .int .u8 h.h6.src.a6, .int .u8 h.h6.src.a7, .int .u8 h.h6.src.a8, .int .u8 h.h6.src.a9, .int .u8 h.h6.src.a10, .int .u8 h.h6.src.a11, .int .u8 h.h6.src.a12, .int .u8 h.h6.src.a13, .int .u8 h.h6.src.a14, .int .u8 h.h6.src.a15, .int .i64 h.h6.dst.v, .int .u8 h.h6.dst.a0, .int .u8 h.h6.dst.a1, .int .u8 h.h6.dst.a2, .int .u8 h.h6.dst.a3, .int .u8 h.h6.dst.a4, .int .u8 h.h6.dst.a5, .int .u8 h.h6.dst.a6, .int .u8 h.h6.dst.a7, .int .u8 h.h6.dst.a8, .int .u8 h.h6.dst.a9, .int .u8 h.h6.dst.a10, .int .u8 h.h6.dst.a11, .int .u8 h.h6.dst.a12, .int .u8 h.h6.dst.a13, .int .u8 h.h6.dst.a14, .int .u8 h.h6.dst.a15, .slice h.h6.exts.A h.h6.exts.n h.h6.exts.k, .bool h.h6.frag.has, .bool h.h6.frag.more, .int .i64 h.h6.frag.id, .int .i64 h.h6.frag.off, .int .i64 h.h6.next, .slice h.h6.data.A h.h6.data.n h.h6.data.k, .int .i64 h.mtu, .int .i64 h.id]
def Op13V.val (h : Op13V) : Value := .agg #[.bool h.six, .int .i64 h.h4.tos, .int .i64 h.h4.id, .bool h.h4.df, .bool h.h4.mf, .int .i64 h.h4.off, .int .i64 h.h4.ttl, .int .i64 h.h4.proto, .int .i64 h.h4.src.v, .int .u8 h.h4.src.a0, .int .u8 h.h4.src.a1, .int .u8 h.h4.src.a2, .int .u8 h.h4.src.a3, .int .u8 h.h4.src.a4, .int .u8 h.h4.src.a5, .int .u8 h.h4.src.a6, .int .u8 h.h4.src.a7, .int .u8 h.h4.src.a8, .int .u8 h.h4.src.a9, .int .u8 h.h4.src.a10, .int .u8 h.h4.src.a11, .int .u8 h.h4.src.a12, .int .u8 h.h4.src.a13, .int .u8 h.h4.src.a14, .int .u8 h.h4.src.a15, .int .i64 h.h4.dst.v, .int .u8 h.h4.dst.a0, .int .u8 h.h4.dst.a1, .int .u8 h.h4.dst.a2, .int .u8 h.h4.dst.a3, .int .u8 h.h4.dst.a4, .int .u8 h.h4.dst.a5, .int .u8 h.h4.dst.a6, .int .u8 h.h4.dst.a7, .int .u8 h.h4.dst.a8, .int .u8 h.h4.dst.a9, .int .u8 h.h4.dst.a10, .int .u8 h.h4.dst.a11, .int .u8 h.h4.dst.a12, .int .u8 h.h4.dst.a13, .int .u8 h.h4.dst.a14, .int .u8 h.h4.dst.a15, .slice h.h4.opts.A h.h4.opts.n h.h4.opts.k, .slice h.h4.data.A h.h4.data.n h.h4.data.k, .int .i64 h.h6.cls, .int .i64 h.h6.flow, .int .i64 h.h6.hop, .int .i64 h.h6.src.v, .int .u8 h.h6.src.a0, .int .u8 h.h6.src.a1, .int .u8 h.h6.src.a2, .int .u8 h.h6.src.a3, .int .u8 h.h6.src.a4, .int .u8 h.h6.src.a5, .int .u8 h.h6.src.a6, .int .u8 h.h6.src.a7, .int .u8 h.h6.src.a8, .int .u8 h.h6.src.a9, .int .u8 h.h6.src.a10, .int .u8 h.h6.src.a11, .int .u8 h.h6.src.a12, .int .u8 h.h6.src.a13, .int .u8 h.h6.src.a14, .int .u8 h.h6.src.a15, .int .i64 h.h6.dst.v, .int .u8 h.h6.dst.a0, .int .u8 h.h6.dst.a1, .int .u8 h.h6.dst.a2, .int .u8 h.h6.dst.a3, .int .u8 h.h6.dst.a4, .int .u8 h.h6.dst.a5, .int .u8 h.h6.dst.a6, .int .u8 h.h6.dst.a7, .int .u8 h.h6.dst.a8, .int .u8 h.h6.dst.a9, .int .u8 h.h6.dst.a10, .int .u8 h.h6.dst.a11, .int .u8 h.h6.dst.a12, .int .u8 h.h6.dst.a13, .int .u8 h.h6.dst.a14, .int .u8 h.h6.dst.a15, .slice h.h6.exts.A h.h6.exts.n h.h6.exts.k, .bool h.h6.frag.has, .bool h.h6.frag.more, .int .i64 h.h6.frag.id, .int .i64 h.h6.frag.off, .int .i64 h.h6.next, .slice h.h6.data.A h.h6.data.n h.h6.data.k, .int .i64 h.mtu, .int .i64 h.id]
def Op13V.ex (K : Op13V → Prop) : Prop := ∃ six : Bool, ∃ h4_tos : Int, ∃ h4_id : Int, ∃ h4_df : Bool, ∃ h4_mf : Bool, ∃ h4_off : Int, ∃ h4_ttl : Int, ∃ h4_proto : Int, ∃ h4_src_v : Int, ∃ h4_src_a0 : Int, ∃ h4_src_a1 : Int, ∃ h4_src_a2 : Int, ∃ h4_src_a3 : Int, ∃ h4_src_a4 : Int, ∃ h4_src_a5 : Int, ∃ h4_src_a6 : Int, ∃ h4_src_a7 : Int, ∃ h4_src_a8 : Int, ∃ h4_src_a9 : Int, ∃ h4_src_a10 : Int, ∃ h4_src_a11 : Int, ∃ h4_src_a12 : Int, ∃ h4_src_a13 : Int, ∃ h4_src_a14 : Int, ∃ h4_src_a15 : Int, ∃ h4_dst_v : Int, ∃ h4_dst_a0 : Int, ∃ h4_dst_a1 : Int, ∃ h4_dst_a2 : Int, ∃ h4_dst_a3 : Int, ∃ h4_dst_a4 : Int, ∃ h4_dst_a5 : Int, ∃ h4_dst_a6 : Int, ∃ h4_dst_a7 : Int, ∃ h4_dst_a8 : Int, ∃ h4_dst_a9 : Int, ∃ h4_dst_a10 : Int, ∃ h4_dst_a11 : Int, ∃ h4_dst_a12 : Int, ∃ h4_dst_a13 : Int, ∃ h4_dst_a14 : Int, ∃ h4_dst_a15 : Int, ∃ (h4_optsA : Option Addr) (h4_optsn h4_optsk : Nat), ∃ (h4_dataA : Option Addr) (h4_datan h4_datak : Nat), ∃ h6_cls : Int, ∃ h6_flow : Int, ∃ h6_hop : Int, ∃ h6_src_v : Int, ∃ h6_src_a0 : Int, ∃ h6_src_a1 : Int, ∃ h6_src_a2 : Int, ∃ h6_src_a3 : Int, ∃ h6_src_a4 : Int, ∃ h6_src_a5 : Int, ∃ h6_src_a6 : Int, ∃ h6_src_a7 : Int, ∃ h6_src_a8 : Int, ∃ h6_src_a9 : Int, ∃ h6_src_a10 : Int, ∃ h6_src_a11 : Int, ∃ h6_src_a12 : Int, ∃ h6_src_a13 : Int, ∃ h6_src_a14 : Int, ∃ h6_src_a15 : Int, ∃ h6_dst_v : Int, ∃ h6_dst_a0 : Int, ∃ h6_dst_a1 : Int, ∃ h6_dst_a2 : Int, ∃ h6_dst_a3 : Int, ∃ h6_dst_a4 : Int, ∃ h6_dst_a5 : Int, ∃ h6_dst_a6 : Int, ∃ h6_dst_a7 : Int, ∃ h6_dst_a8 : Int, ∃ h6_dst_a9 : Int, ∃ h6_dst_a10 : Int, ∃ h6_dst_a11 : Int, ∃ h6_dst_a12 : Int, ∃ h6_dst_a13 : Int, ∃ h6_dst_a14 : Int, ∃ h6_dst_a15 : Int, ∃ (h6_extsA : Option Addr) (h6_extsn h6_extsk : Nat), ∃ h6_frag_has : Bool, ∃ h6_frag_more : Bool, ∃ h6_frag_id : Int, ∃ h6_frag_off : Int, ∃ h6_next : Int, ∃ (h6_dataA : Option Addr) (h6_datan h6_datak : Nat), ∃ mtu : Int, ∃ id : Int, K ⟨six, ⟨h4_tos, h4_id, h4_df, h4_mf, h4_off, h4_ttl, h4_proto, ⟨h4_src_v, h4_src_a0, h4_src_a1, h4_src_a2, h4_src_a3, h4_src_a4, h4_src_a5, h4_src_a6, h4_src_a7, h4_src_a8, h4_src_a9, h4_src_a10, h4_src_a11, h4_src_a12, h4_src_a13, h4_src_a14, h4_src_a15⟩, ⟨h4_dst_v, h4_dst_a0, h4_dst_a1, h4_dst_a2, h4_dst_a3, h4_dst_a4, h4_dst_a5, h4_dst_a6, h4_dst_a7, h4_dst_a8, h4_dst_a9, h4_dst_a10, h4_dst_a11, h4_dst_a12, h4_dst_a13, h4_dst_a14, h4_dst_a15⟩, ⟨h4_optsA, h4_optsn, h4_optsk⟩, ⟨h4_dataA, h4_datan, h4_datak⟩⟩, ⟨h6_cls, h6_flow, h6_hop, ⟨h6_src_v, h6_src_a0, h6_src_a1, h6_src_a2, h6_src_a3, h6_src_a4, h6_src_a5, h6_src_a6, h6_src_a7, h6_src_a8, h6_src_a9, h6_src_a10, h6_src_a11, h6_src_a12, h6_src_a13, h6_src_a14, h6_src_a15⟩, ⟨h6_dst_v, h6_dst_a0, h6_dst_a1, h6_dst_a2, h6_dst_a3, h6_dst_a4, h6_dst_a5, h6_dst_a6, h6_dst_a7, h6_dst_a8, h6_dst_a9, h6_dst_a10, h6_dst_a11, h6_dst_a12, h6_dst_a13, h6_dst_a14, h6_dst_a15⟩, ⟨h6_extsA, h6_extsn, h6_extsk⟩, ⟨h6_frag_has, h6_frag_more, h6_frag_id, h6_frag_off⟩, h6_next, ⟨h6_dataA, h6_datan, h6_datak⟩⟩, mtu, id⟩
theorem Op13V.of {K : Op13V → Prop} (h : Op13V) (hK : K h) : Op13V.ex K := by unfold Op13V.ex; exact ⟨_, _, _, _, _, _, _, _, _, _, _, _, _, _, _, _, _, _, _, _, _, _, _, _, _, _, _, _, _, _, _, _, _, _, _, _, _, _, _, _, _, _, _, _, _, _, _, _, _, _, _, _, _, _, _, _, _, _, _, _, _, _, _, _, _, _, _, _, _, _, _, _, _, _, _, _, _, _, _, _, _, _, _, _, _, _, _, _, _, _, _, _, _, _, _, _, _, _, hK⟩
def Op13V.z : Op13V := ⟨false, ⟨0, 0, false, false, 0, 0, 0, ⟨0, 0, 0, 0, 0, 0, 0, 0, 0, 0, 0, 0, 0, 0, 0, 0, 0⟩, ⟨0, 0, 0, 0, 0, 0, 0, 0, 0, 0, 0, 0, 0, 0, 0, 0, 0⟩, ⟨none, 0, 0⟩, ⟨none, 0, 0⟩⟩, ⟨0, 0, 0, ⟨0, 0, 0, 0, 0, 0, 0, 0, 0, 0, 0, 0, 0, 0, 0, 0, 0⟩, ⟨0, 0, 0, 0, 0, 0, 0, 0, 0, 0, 0, 0, 0, 0, 0, 0, 0⟩, ⟨none, 0, 0⟩, ⟨false, false, 0, 0⟩, 0, ⟨none, 0, 0⟩⟩, 0, 0⟩
theorem Op13V.one (h : Op13V) : ∀ v ∈ h.cells, v.oneCell' = true := List.all_eq_true.1 (rfl : h.cells.all Value.oneCell' = true)
structure TurnV where
  kind : Int
  at' : Int
  by' : Int
def TurnV.cells (h : TurnV) : List Value := [.int .i64 h.kind, .int .i64 h.at', .int .i64 h.by']
def TurnV.val (h : TurnV) : Value := .agg #[.int .i64 h.kind, .int .i64 h.at', .int .i64 h.by']
def TurnV.ex (K : TurnV → Prop) : Prop := ∃ kind : Int, ∃ at_ : Int, ∃ by_ : Int, K ⟨kind, at_, by_⟩
theorem TurnV.of {K : TurnV → Prop} (h : TurnV) (hK : K h) : TurnV.ex K := by unfold TurnV.ex; exact ⟨_, _, _, hK⟩
def TurnV.z : TurnV := ⟨0, 0, 0⟩
theorem TurnV.one (h : TurnV) : ∀ v ∈ h.cells, v.oneCell' = true := List.all_eq_true.1 (rfl : h.cells.all Value.oneCell' = true)
def TurnV.beq (a b : TurnV) : Bool := ((decide (a.kind = b.kind)) && ((decide (a.at' = b.at')) && ((decide (a.by' = b.by')) && true)))
end Go.Eng
