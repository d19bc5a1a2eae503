/- The engine: a computed weakest precondition over the model's code, on frames kept as association lists, and its soundness. It speaks of any program. -/
import Derived.WalkKit
import Derived.Recover
namespace Go.Eng
open Go

/-! ### Frames -/
abbrev Env := List (Nat × Option Value)

def get (t : Nat) : Env → Option Value
  | [] => none
  | (k, v) :: r => bif Nat.beq k t then v else get t r

def ev (E : Env) : Operand → Option Value
  | .tmp t => get t E
  | .const v => some v
  | .global g => some (.pointer (some ⟨g, 0, none⟩))
  | .func f => some (.func (.func f) #[] #[])

def evs (E : Env) : List Operand → Option (List Value)
  | [] => some []
  | x :: r => match ev E x with
    | some v => match evs E r with
      | some vs => some (v :: vs)
      | none => none
    | none => none

def put (d : Option Tmp) (v : Option Value) (E : Env) : Env :=
  match d with
  | some d => (d, v) :: E
  | none => E

def putOk (N : Nat) (d : Option Tmp) : Bool :=
  match d with
  | some d => Nat.blt d N
  | none => true

structure Agrees (N : Nat) (E : Env) (D : List Deferred) (a : Act) : Prop where
  size : a.tmps.size = N
  defers : a.defers = D
  at_ : ∀ t v, get t E = some v → a.tmps[t]? = some v

theorem Agrees.ev {N : Nat} {E : Env} {D : List Deferred} {a : Act} (h : Agrees N E D a) {x : Operand} {v : Value} (hx : ev E x = some v) : a.eval x = v := by
  cases x with
  | tmp t =>
    have := h.at_ t v hx
    simp [Act.eval, Array.getD_eq_getD_getElem?, this]
  | const u => simpa [Eng.ev, Act.eval] using hx
  | global g => simpa [Eng.ev, Act.eval] using hx
  | func f => simpa [Eng.ev, Act.eval] using hx

theorem Agrees.evs {N : Nat} {E : Env} {D : List Deferred} {a : Act} (h : Agrees N E D a) : ∀ {xs : List Operand} {vs : List Value}, evs E xs = some vs → xs.map a.eval = vs
  | [], vs, hx => by simp [Eng.evs] at hx; simp [hx]
  | x :: r, vs, hx => by
    simp only [Eng.evs] at hx
    cases h1 : Eng.ev E x with
    | none => simp [h1] at hx
    | some v =>
      cases h2 : Eng.evs E r with
      | none => simp [h1, h2] at hx
      | some us =>
        simp only [h1, h2, Option.some.injEq] at hx
        subst hx
        simp [h.ev h1, h.evs h2]

theorem get_put_same (d : Tmp) (v : Option Value) (E : Env) : get d (put (some d) v E) = v := by
  simp [put, get]
theorem get_put_ne {t d : Tmp} (v : Option Value) (E : Env) (hne : d ≠ t) : get t (put (some d) v E) = get t E := by
  have : Nat.beq d t = false := by
    cases h : Nat.beq d t
    · rfl
    · exact absurd (Nat.eq_of_beq_eq_true h) hne
  simp [put, get, this]

theorem Agrees.put {N : Nat} {E : Env} {D : List Deferred} {a : Act} (h : Agrees N E D a) {d : Option Tmp} (hd : putOk N d = true) (v : Value) :
    Agrees N (put d (some v) E) D (a.put d v) := by
  cases d with
  | none => exact h
  | some d =>
    have hlt : d < N := by simpa [putOk] using hd
    refine ⟨by simp [Act.put, h.size], by simp [Act.put, h.defers], fun t u ht => ?_⟩
    by_cases e : d = t
    · subst e
      rw [get_put_same] at ht
      simp only [Act.put]
      rw [Array.getElem?_setIfInBounds_self_of_lt (by rw [h.size]; exact hlt)]
      exact ht
    · rw [get_put_ne _ _ e] at ht
      simp only [Act.put]
      rw [Array.getElem?_setIfInBounds_ne e]
      exact h.at_ t u ht

/-- A slot of which nothing is known any more. -/
theorem Agrees.kill {N : Nat} {E : Env} {D : List Deferred} {a : Act} (h : Agrees N E D a) {d : Option Tmp} (v : Value) :
    Agrees N (Eng.put d none E) D (a.put d v) := by
  cases d with
  | none => exact h
  | some d =>
    refine ⟨by simp [Act.put, h.size], by simp [Act.put, h.defers], fun t u ht => ?_⟩
    by_cases e : d = t
    · subst e
      rw [get_put_same] at ht
      cases ht
    · rw [get_put_ne _ _ e] at ht
      simp only [Act.put]
      rw [Array.getElem?_setIfInBounds_ne e]
      exact h.at_ t u ht

/-! ### The small words of a condition -/
def Br (b : Bool) (A B : Prop) : Prop :=
  match b with
  | true => A
  | false => B
theorem Br.intro {b : Bool} {A B : Prop} (h1 : b = true → A) (h2 : b = false → B) : Br b A B := by
  cases b
  · exact h2 rfl
  · exact h1 rfl
theorem Br.dec {p : Prop} [Decidable p] {A B : Prop} (h1 : p → A) (h2 : ¬ p → B) : Br (decide p) A B :=
  Br.intro (fun h => h1 (of_decide_eq_true h)) (fun h => h2 (of_decide_eq_false h))
theorem Br.t {b : Bool} {A B : Prop} (hb : b = true) (h : A) : Br b A B := by subst hb; exact h
theorem Br.f {b : Bool} {A B : Prop} (hb : b = false) (h : B) : Br b A B := by subst hb; exact h
theorem Br.yes {p : Prop} [Decidable p] {A B : Prop} (hp : p) (h : A) : Br (decide p) A B := Br.t (decide_eq_true hp) h
theorem Br.no {p : Prop} [Decidable p] {A B : Prop} (hp : ¬ p) (h : B) : Br (decide p) A B := Br.f (decide_eq_false hp) h

/-- A value of the shape of one cell's zero. -/
def like1 : Value → (Value → Prop) → Prop
  | .int k _, K => ∃ x : Int, K (.int k x)
  | .bool _, K => ∃ x : Bool, K (.bool x)
  | .string _, K => ∃ x : ByteArray, K (.string x)
  | .slice _ _ _, K => ∃ (A : Option Addr) (n c : Nat), K (.slice A n c)
  | .pointer _, K => ∃ p : Option Addr, K (.pointer p)
  | .map _, K => ∃ m : Option Nat, K (.map m)
  | _, K => ∃ v : Value, K v
def likes1 : List Value → (List Value → Prop) → Prop
  | [], K => K []
  | z :: r, K => like1 z fun v => likes1 r fun vs => K (v :: vs)
def like : Value → (Value → Prop) → Prop
  | .agg zs, K => likes1 zs.toList fun vs => K (.agg vs.toArray)
  | z, K => like1 z K
def likes : List Value → (List Value → Prop) → Prop
  | [], K => K []
  | z :: r, K => like z fun v => likes r fun vs => K (v :: vs)
/-- What a call hands back, of the shape of its type's zero. -/
def likeRes : Value → (Value → Prop) → Prop
  | .tuple zs, K => likes zs.toList fun vs => K (.tuple vs.toArray)
  | z, K => like z K

theorem like1_some {z : Value} {K : Value → Prop} (h : like1 z K) : ∃ v, K v := by
  cases z <;> simp only [like1] at h <;> first
    | (obtain ⟨A, n, c, h⟩ := h; exact ⟨_, h⟩)
    | (obtain ⟨x, h⟩ := h; exact ⟨_, h⟩)
theorem likes1_some : ∀ {zs : List Value} {K : List Value → Prop}, likes1 zs K → ∃ vs, vs.length = zs.length ∧ K vs
  | [], _, h => ⟨[], rfl, h⟩
  | _ :: r, K, h => by
    obtain ⟨v, hv⟩ := like1_some h
    obtain ⟨vs, hl, hk⟩ := likes1_some hv
    exact ⟨v :: vs, by simp [hl], hk⟩
theorem like_some {z : Value} {K : Value → Prop} (h : like z K) : ∃ v, K v := by
  cases z
  case agg zs =>
    simp only [like] at h
    obtain ⟨vs, _, h⟩ := likes1_some h
    exact ⟨_, h⟩
  all_goals (simp only [like] at h; exact like1_some h)
theorem likes_some : ∀ {zs : List Value} {K : List Value → Prop}, likes zs K → ∃ vs, vs.length = zs.length ∧ K vs
  | [], _, h => ⟨[], rfl, h⟩
  | _ :: r, K, h => by
    obtain ⟨v, hv⟩ := like_some h
    obtain ⟨vs, hl, hk⟩ := likes_some hv
    exact ⟨v :: vs, by simp [hl], hk⟩
theorem likeRes_some {z : Value} {K : Value → Prop} (h : likeRes z K) : ∃ v, K v := by
  cases z
  case tuple zs =>
    simp only [likeRes] at h
    obtain ⟨vs, _, h⟩ := likes_some h
    exact ⟨_, h⟩
  all_goals (simp only [likeRes] at h; exact like_some h)

/-- A new block. -/
def NewVC (w : World) (o : Obj) (F : Nat → World → Prop) : Prop := ∀ (g : Nat) (w' : World), g = w.heap.size → w' = w.alloc o → F g w'
/-- The cells from a on are these. -/
def CellsAt (w : World) (a : Addr) : Nat → List Value → Prop
  | _, [] => True
  | i, v :: r => w.cell? (a.add i) = some v ∧ CellsAt w a (i + 1) r
/-- One cell is written. -/
def SetVC (w : World) (a : Addr) (v : Value) (F : World → Prop) : Prop :=
  (∃ u, w.cell? a = some u) ∧ w.frozen? a = false ∧ ∀ w', w' = w.setCell a v → F w'
def Stores : Addr → Nat → List Value → World → (World → Prop) → Prop
  | _, _, [], w, F => F w
  | a, i, v :: r, w, F => bif v.oneCell' then SetVC w (a.add i) v fun w' => Stores a (i + 1) r w' F else False
/-- What is asked of a call's ending. -/
def onRet (A : Value → World → Prop) (Qp : List PanicEntry → World → Prop) : Ending → World → Prop := fun e w' =>
  match e with
  | .returned v => A v w'
  | .panicked c => Qp c w'
  | .outgrown => False
/-- A call. -/
def CallVC (P : Program) (f : FuncId) (args : Array Value) (w : World) (F : Value → World → Prop) (z : Value) (Qp : List PanicEntry → World → Prop) : Prop :=
  Calls P f args w (onRet (fun v w' => likeRes z fun u => v = u ∧ F u w') Qp)
/-- An append. -/
def AppVC (P : Program) (ts : Array TypeId) (ty : TypeId) (s x : Value) (w : World) (F : Option Addr → Nat → Nat → World → Prop) : Prop :=
  ∃ A n c w', (Builtin.append_ ts ty #[s, x]).run P w = .ok (.slice A n c) w' ∧ F A n c w'
def CopyVC (P : Program) (ts : Array TypeId) (ty : TypeId) (s x : Value) (w : World) (F : Int → World → Prop) : Prop :=
  ∃ n w', (Builtin.copy_ ts ty #[s, x]).run P w = .ok (.int .i64 n) w' ∧ F n w'
def StrVC (P : Program) (v : Value) (w : World) (F : ByteArray → Prop) : Prop :=
  ∃ s, (Conv.bytesToString v).run P w = .ok (.string s) w ∧ F s
/-- A part of a slice. -/
def SliceVC (A : Option Addr) (n c size : Nat) (lo hi mx : Option Int) (F : Option Addr → Nat → Nat → Prop) : Prop :=
  match lo, hi, mx with
  | none, none, none => F A n c
  | none, some h, none => 0 ≤ h ∧ h ≤ c ∧ F A h.toNat c
  | some l, none, none => 0 ≤ l ∧ l ≤ n ∧ F (if c = l.toNat then A else A.map (·.add (l.toNat * size))) (n - l.toNat) (c - l.toNat)
  | some l, some h, none => 0 ≤ l ∧ l ≤ h ∧ h ≤ c ∧ F (if c = l.toNat then A else A.map (·.add (l.toNat * size))) (h.toNat - l.toNat) (c - l.toNat)
  | some l, some h, some m => 0 ≤ l ∧ l ≤ h ∧ h ≤ m ∧ m ≤ c ∧ F (if m.toNat = l.toNat then A else A.map (·.add (l.toNat * size))) (h.toNat - l.toNat) (m.toNat - l.toNat)
  | none, some h, some m => 0 ≤ h ∧ h ≤ m ∧ m ≤ c ∧ F A h.toNat m.toNat
  | _, none, some _ => False
def IdxVC (A : Option Addr) (n size : Nat) (i : Int) (F : Addr → Prop) : Prop :=
  ∃ a, A = some a ∧ 0 ≤ i ∧ i < n ∧ F (a.add (i.toNat * size))
def NilVC (p : Option Addr) (F : Addr → Prop) : Prop := ∃ a, p = some a ∧ F a
/-- A row of n zeros. -/
def zeros (z : List Value) : Nat → List Value
  | 0 => []
  | n + 1 => z ++ zeros z n
def MakeVC (w : World) (e bytes : Nat) (z : List Value) (l c : Int) (F : Nat → World → Prop) : Prop :=
  0 ≤ l ∧ l ≤ c ∧ bytes * c ≤ 281474976710656 ∧ NewVC w (.cells (zeros z c.toNat).toArray e) F
def ShVC (b : Int) (F : Prop) : Prop := 0 ≤ b ∧ F
def DivVC (b : Int) (F : Prop) : Prop := b ≠ 0 ∧ F

/-- New bytes of the library's own (internal/bytealg.MakeNoZero): whatever they are. -/
def NoZeroVC (w : World) (e : TypeId) (n : Int) (F : Nat → Nat → World → Prop) : Prop :=
  0 ≤ n ∧ n ≤ 140737488355328 ∧ ∀ (g : Nat) (cs : Array Value) (w' : World), g = w.heap.size → n ≤ cs.size → cs.size ≤ maxLen → w' = w.drew.drew.alloc (.cells cs e) → F g cs.size w'
def noZeroT (P : Program) (f : FuncId) : Option TypeId :=
  match P.funcs[f]? with
  | some fn => bif !(fn.name == "runtime.NumGoroutine") && (fn.name == "internal/bytealg.MakeNoZero" && (fn.origin == "" && fn.body.isNone)) then
      match fn.resultTypes.toList with
      | [t] => match P.underlying t with
        | some (.slice e) => some e
        | _ => none
      | _ => none
    else none
  | none => none

/-! ### Maps -/
/-- What a map reads at a key; with the second answer, whether there is such an entry. -/
def LookVC (P : Program) (t : TypeId) (m k : Value) (ok : Bool) (z : Value) (w : World) (F : Value → Prop) : Prop :=
  match ok with
  | true => like z fun v => ∃ b : Bool, (Instr.lookup t m k true).run P w = .ok (.tuple #[v, .bool b]) w ∧ F (.tuple #[v, .bool b])
  | false => like z fun v => (Instr.lookup t m k false).run P w = .ok v w ∧ F v
def MapSetVC (P : Program) (t : TypeId) (m k v : Value) (w : World) (F : World → Prop) : Prop := ∃ w', (Instr.mapUpdate t m k v).run P w = .ok () w' ∧ F w'
def RangeVC (P : Program) (t : TypeId) (m : Value) (w : World) (F : Nat → World → Prop) : Prop :=
  ∃ g w', (Instr.range t m).run P w = .ok (.pointer (some ⟨g, 0, none⟩)) w' ∧ F g w'
/-- The next round of a range over a map: there is none, or there is one. -/
def NextVC (P : Program) (it : Value) (ty : TypeId) (w : World) (F0 : World → Prop) (F1 : Value → Value → World → Prop) : Prop :=
  (∃ w', (Instr.next it false ty).run P w = .ok (.tuple #[.bool false]) w' ∧ F0 w') ∨ (∃ k v w', (Instr.next it false ty).run P w = .ok (.tuple #[.bool true, k, v]) w' ∧ F1 k v w')
/-- The round's key, and its value (a pointer). -/
def EntryVC (P : Program) (it : Value) (w : World) (F : Value → Option Addr → Prop) : Prop :=
  ∃ k p, (Instr.entry it).run P w = .ok (.tuple #[k, .pointer p]) w ∧ F k p
def DelVC (P : Program) (ts : Array TypeId) (ty : TypeId) (m k : Value) (w : World) (F : World → Prop) : Prop :=
  ∃ w', (Builtin.delete_ ts ty #[m, k]).run P w = .ok (.tuple #[]) w' ∧ F w'
def LenVC (P : Program) (ts : Array TypeId) (ty : TypeId) (m : Value) (w : World) (F : Int → Prop) : Prop :=
  ∃ n : Int, (Builtin.len_ ts ty #[m]).run P w = .ok (.int .i64 n) w ∧ F n

/-! ### One operation -/
def zr (P : Program) (t : TypeId) : Option Value :=
  match P.info? t with
  | some i => i.zero
  | none => none
def szOf (P : Program) (t : TypeId) : Option Nat :=
  match P.info? t with
  | some i => some i.size
  | none => none
def aggT (P : Program) (t : TypeId) : Option Bool :=
  match P.underlying t with
  | some (.struct _) => some true
  | some (.array _ _) => some true
  | some _ => some false
  | none => none

def bitv (op : BinOp) (k : IntKind) (x y : Int) : Int :=
  match op with
  | .and => k.wrap ((BitVec.ofInt k.bits x &&& BitVec.ofInt k.bits y).toNat)
  | .or => k.wrap ((BitVec.ofInt k.bits x ||| BitVec.ofInt k.bits y).toNat)
  | .xor => k.wrap ((BitVec.ofInt k.bits x ^^^ BitVec.ofInt k.bits y).toNat)
  | _ => k.wrap ((BitVec.ofInt k.bits x &&& ~~~ BitVec.ofInt k.bits y).toNat)

def intBin (op : BinOp) (k : IntKind) (a b : Int) : Option Value :=
  match op with
  | .add => some (.int k (k.wrap (a + b)))
  | .sub => some (.int k (k.wrap (a - b)))
  | .mul => some (.int k (k.wrap (a * b)))
  | .and => some (.int k (bitv .and k a b))
  | .or => some (.int k (bitv .or k a b))
  | .xor => some (.int k (bitv .xor k a b))
  | .andNot => some (.int k (bitv .andNot k a b))
  | .eql => some (.bool (decide (a = b)))
  | .neq => some (.bool (decide (a ≠ b)))
  | .lss => some (.bool (decide (a < b)))
  | .leq => some (.bool (decide (a ≤ b)))
  | .gtr => some (.bool (decide (b < a)))
  | .geq => some (.bool (decide (b ≤ a)))
  | _ => none

def boolBin (op : BinOp) (a b : Bool) : Option Value :=
  match op with
  | .eql => some (.bool (a == b))
  | .neq => some (.bool (!(a == b)))
  | _ => none

def partOf (P : Program) (t : TypeId) (cs : Array Value) (off : Nat) : Option Value :=
  match aggT P t with
  | some true => match szOf P t with
    | some n => some (.agg (cs.extract off (off + n)))
    | none => none
  | some false => cs[off]?
  | none => none

/-- Both, and all of a list. -/
def allB {α : Type} (f : α → Option Bool) : List α → Option Bool
  | [] => some true
  | i :: r => match f i with
    | some b => match allB f r with
      | some c => some (b && c)
      | none => none
    | none => none
/-- Are two values of a type the same? (Numbers and truths, arrays and structs of these.) -/
def eqV (P : Program) : Nat → TypeId → Value → Value → Option Bool
  | 0, _, _, _ => none
  | d + 1, t, x, y => match P.underlying t with
    | some .bool => match x, y with
      | .bool a, .bool b => some (a == b)
      | _, _ => none
    | some (.int _) => match x, y with
      | .int k a, .int k' b => if k = k' then some (decide (a = b)) else none
      | _, _ => none
    | some (.array n e) => match x, y, P.info? e with
      | .agg xs, .agg ys, some _ => allB (fun i => match partOf P e xs (i * P.cellsOf e), partOf P e ys (i * P.cellsOf e) with
        | some a, some b => eqV P d e a b
        | _, _ => none) (List.range n)
      | _, _, _ => none
    | some (.struct fs) => match x, y, P.stoodInHeld t with
      | .agg xs, .agg ys, false => allB (fun f => if f.name ≠ "_" then match partOf P f.type xs f.offset, partOf P f.type ys f.offset with
        | some a, some b => eqV P d f.type a b
        | _, _ => none else none) fs.toList
      | _, _, _ => none
    | _ => none

def binV (P : Program) (op : BinOp) (t : TypeId) (x y : Value) : Option Value :=
  match x, y with
  | .int k a, .int k' b => if k = k' then intBin op k a b else none
  | .string a, .string b => boolBin' op (a.toList == b.toList)
  | .bool a, .bool b => match P.underlying t with
    | some .bool => boolBin op a b
    | _ => none
  | .pointer p, .pointer none => match P.underlying t with
    | some (.pointer _) => boolBin' op p.isNone
    | _ => none
  | .slice A _ _, .slice none _ _ => match P.underlying t with
    | some (.slice _) => boolBin' op A.isNone
    | _ => none
  | .agg xs, .agg ys => match P.eqGuardType P.depth t, eqV P 6 t (.agg xs) (.agg ys) with
    | false, some b => boolBin' op b
    | _, _ => none
  | _, _ => none
  where
  boolBin' (op : BinOp) (b : Bool) : Option Value :=
    match op with
    | .eql => some (.bool b)
    | .neq => some (.bool (!b))
    | _ => none

def places (P : Program) : List Field → Option (List (Nat × Nat))
  | [] => some []
  | f :: r => match szOf P f.type with
    | some n => match places P r with
      | some l => some ((f.offset, n) :: l)
      | none => none
    | none => none

def evParts (E : Env) : List (Nat × Operand) → Option (List (Nat × Value))
  | [] => some []
  | (i, x) :: r => match ev E x with
    | some v => match evParts E r with
      | some l => some ((i, v) :: l)
      | none => none
    | none => none

def pureOp (P : Program) (E : Env) : Op → Option Value
  | .move x => ev E x
  | .assign x => ev E x
  | .pick c a b => match ev E c with
    | some (.bool true) => ev E a
    | some (.bool false) => ev E b
    | _ => none
  | .binOp op t x y _ => match ev E x, ev E y with
    | some x, some y => binV P op t x y
    | _, _ => none
  | .unOp op _ x => match op, ev E x with
    | .not, some (.bool b) => some (.bool (!b))
    | .neg, some (.int k n) => some (.int k (k.wrap (0 - n)))
    | .xor, some (.int k n) => some (.int k (bitv .xor k (if k.signed then -1 else k.max) n))
    | _, _ => none
  | .convert s d x => match P.underlying s, P.underlying d, ev E x with
    | some _, some (.int k), some (.int _ n) => some (.int k (k.wrap n))
    | some _, some .string, some (.string b) => some (.string b)
    | _, _, _ => none
  | .call c => match c.callee, c.argTypes.toList, evs E c.args.toList with
    | .builtin .len, [t], some [v] => match P.underlying t, v with
      | some .string, .string s => some (.int .i64 s.size)
      | some (.slice _), .slice _ n _ => some (.int .i64 n)
      | some (.array n _), _ => some (.int .i64 n)
      | _, _ => none
    | .builtin .cap, [t], some [v] => match P.underlying t, v with
      | some (.slice _), .slice _ _ n => some (.int .i64 n)
      | some (.array n _), _ => some (.int .i64 n)
      | _, _ => none
    | .builtin .min, _, some [.int k x, .int _ y] => some (.int k (if y < x then y else x))
    | .builtin .max, _, some [.int k x, .int _ y] => some (.int k (if x < y then y else x))
    | _, _, _ => none
  | .extract x i => match ev E x with
    | some (.tuple vs) => vs[i]?
    | _ => none
  | .makeInterface t x => match P.underlying t, ev E x with
    | some (.interface _), _ => none
    | some _, some v => some (.iface t v)
    | _, _ => none
  | .makeFunc fn first cap => match evs E first.toList, evs E cap.toList with
    | some a, some b => some (.func fn a.toArray b.toArray)
    | _, _ => none
  | .fieldAddr s x f => match P.underlying s, ev E x with
    | some (.struct fs), some (.pointer (some a)) => match fs[f]? with
      | some fd => match szOf P fd.type with
        | some (_ + 1) => some (.pointer (some (a.add fd.offset)))
        | _ => none
      | none => none
    | _, _ => none
  | .field t x f => match P.underlying t, ev E x with
    | some (.struct fs), some (.agg cs) => match fs[f]? with
      | some fd => partOf P fd.type cs fd.offset
      | none => none
    | _, _ => none
  | .build t parts => match zr P t, evParts E parts.toList with
    | some z, some ps => match P.underlying t with
      | some (.struct fs) => match places P fs.toList with
        | some pl => match Instr.fill (fun i => pl[i]?) z.cells ps with
          | some cs => some (.agg cs)
          | none => none
        | none => none
      | some (.array _ e) => match szOf P e with
        | some n => match Instr.fill (fun i => some (i * n, n)) z.cells ps with
          | some cs => some (.agg cs)
          | none => none
        | none => none
      | _ => none
    | _, _ => none
  | _ => none

def loadWp (P : Program) (t : TypeId) (a : Addr) (w : World) (K : Value → Prop) : Prop :=
  match aggT P t with
  | some true => match P.info? t with
    | some i => match i.zero with
      | some (.agg cs) => bif Nat.beq cs.toList.length i.size then likes1 cs.toList fun vs => CellsAt w a 0 vs ∧ K (.agg vs.toArray) else False
      | _ => False
    | none => False
  | some false => match zr P t with
    | some z => like1 z fun v => w.cell? a = some v ∧ K v
    | none => False
  | none => False

def evo (E : Env) : Option Operand → Option (Option Int)
  | none => some none
  | some x => match ev E x with
    | some (.int _ i) => some (some i)
    | _ => none

/-- A part of a text. -/
def StrCutVC (s : ByteArray) (lo hi : Option Int) (F : ByteArray → Prop) : Prop :=
  match lo, hi with
  | none, none => F (s.extract 0 s.size)
  | none, some h => 0 ≤ h ∧ h ≤ s.size ∧ F (s.extract 0 h.toNat)
  | some l, none => 0 ≤ l ∧ l ≤ s.size ∧ F (s.extract l.toNat s.size)
  | some l, some h => 0 ≤ l ∧ l ≤ h ∧ h ≤ s.size ∧ F (s.extract l.toNat h.toNat)
/-- An index into a text, or into an array's value. -/
def StrIdxVC (s : ByteArray) (i : Int) (F : Int → Prop) : Prop := 0 ≤ i ∧ i < s.size ∧ F ((s.toList.getD i.toNat 0).toNat : Int)
def PartVC (cs : List Value) (i : Int) (n sz : Nat) (vs : List Value) : Prop := 0 ≤ i ∧ i < n ∧ (cs.drop (i.toNat * sz)).take sz = vs
def idxWp (P : Program) (t : TypeId) (x : Value) (i : Int) (K : Value → Prop) : Prop :=
  match P.underlying t, x with
  | some .string, .string s => StrIdxVC s i fun n => K (.int .u8 n)
  | some (.array len e), .agg cs => match aggT P e, P.info? e with
    | some true, some inf => match inf.zero with
      | some (.agg zs) => bif Nat.beq zs.toList.length inf.size then likes1 zs.toList fun vs => PartVC cs.toList i len inf.size vs ∧ K (.agg vs.toArray) else False
      | _ => False
    | some false, some inf => match inf.zero with
      | some z => like1 z fun v => PartVC cs.toList i len inf.size [v] ∧ K v
      | none => False
    | _, _ => False
  | _, _ => False

def shWp (op : BinOp) (k : IntKind) (a : Int) (n : Nat) : Value :=
  match op with
  | .shl => .int k (k.wrap (a * 2 ^ (min n k.bits)))
  | _ => .int k (a.fdiv (2 ^ (min n k.bits)))
def divV (op : BinOp) (k : IntKind) (a b : Int) : Value :=
  match op with
  | .quo => .int k (k.wrap (a.tdiv b))
  | _ => .int k (a.tmod b)

def isSh : BinOp → Bool
  | .shl => true
  | .shr => true
  | _ => false
def isDiv : BinOp → Bool
  | .quo => true
  | .rem => true
  | _ => false

/-- The function behind a method of a type that is no pointer: the type's own, of a value. -/
def methT (P : Program) (t : TypeId) (name : String) : Option FuncId :=
  match P.info? t, P.underlying t with
  | some i, some u => match i.methods.toList.find? (·.name == name) with
    | some m => match m.path.toList, m.func, u with
      | _, _, .pointer _ => none
      | [], some (f, false), _ => some f
      | _, _, _ => none
    | none => none
  | _, _ => none
def opWp (P : Program) (F : Nat → Bool) (E : Env) (o : Oper) (w : World) (K : Value → World → Prop) (Qp : List PanicEntry → World → Prop) : Prop :=
  match o.op with
  | .load t x => match ev E x with
    | some (.pointer (some a)) => loadWp P t a w fun v => K v w
    | _ => False
  | .store t x y => match ev E x, ev E y with
    | some (.pointer (some a)), some v => match szOf P t with
      | some n => bif Nat.beq v.cells.toList.length n then Stores a 0 v.cells.toList w fun w' => K undef w' else False
      | none => False
    | _, _ => False
  | .alloc t => match zr P t with
    | some z => NewVC w (.cells z.cells t) fun g w' => K (.pointer (some ⟨g, 0, none⟩)) w'
    | none => False
  | .box t x => match ev E x with
    | some v => NewVC w (.cells v.cells t) fun g w' => K (.pointer (some ⟨g, 0, none⟩)) w'
    | none => False
  | .buildSlice t len parts => match P.underlying t, evParts E parts.toList with
    | some (.slice e), some ps => match szOf P e, zr P e with
      | some n, some z => bif Nat.ble (len * n) 16777216 && Nat.beq z.cells.toList.length n && !Nat.beq n 0 then
          match Instr.fill (fun i => some (i * n, n)) (zeros z.cells.toList len).toArray ps with
          | some cs => NewVC w (.cells cs e) fun g w' => K (.slice (some ⟨g, 0, none⟩) len len) w'
          | none => False
        else False
      | _, _ => False
    | _, _ => False
  | .makeSlice t l c => match P.underlying t, ev E l, ev E c with
    | some (.slice e), some (.int _ a), some (.int _ b) => match P.info? e with
      | some i => match i.zero with
        | some z => bif Nat.beq z.cells.toList.length i.size && !Nat.beq i.size 0 && !Nat.beq i.bytes 0 then
            MakeVC w e i.bytes z.cells.toList a b fun g w' => K (.slice (some ⟨g, 0, none⟩) a.toNat b.toNat) w'
          else False
        | none => False
      | none => False
    | _, _, _ => False
  | .slice t x lo hi mx => match P.underlying t, ev E x with
    | some (.slice e), some (.slice A n c) => match szOf P e, evo E lo, evo E hi, evo E mx with
      | some sz, some lo, some hi, some mx => SliceVC A n c sz lo hi mx fun A n c => K (.slice A n c) w
      | _, _, _, _ => False
    | some (.array n e), some (.pointer (some a)) => match szOf P e, evo E lo, evo E hi, evo E mx with
      | some sz, some lo, some hi, some mx => SliceVC (some a) n n sz lo hi mx fun A n c => K (.slice A n c) w
      | _, _, _, _ => False
    | some .string, some (.string s) => match evo E lo, evo E hi, mx with
      | some lo, some hi, none => StrCutVC s lo hi fun s => K (.string s) w
      | _, _, _ => False
    | _, _ => False
  | .sliceToArrayPointer t x => match P.underlying t, ev E x with
    | some (.array n _), some (.slice A len _) => n ≤ len ∧ NilVC A fun a => K (.pointer (some a)) w
    | _, _ => False
  | .indexAddr t x ix => match P.underlying t, ev E x, ev E ix with
    | some (.slice e), some (.slice A n _), some (.int _ i) => match szOf P e with
      | some sz => IdxVC A n sz i fun a => K (.pointer (some a)) w
      | none => False
    | some (.array len e), some (.pointer (some a)), some (.int _ i) => match szOf P e with
      | some sz => IdxVC (some a) len sz i fun a => K (.pointer (some a)) w
      | none => False
    | _, _, _ => False
  | .index t x ix => match ev E x, ev E ix with
    | some x, some (.int _ i) => idxWp P t x i fun v => K v w
    | _, _ => False
  | .nilCheck x => match ev E x with
    | some (.pointer p) => NilVC p fun a => K (.pointer (some a)) w
    | some (.func (.func f) a b) => K (.func (.func f) a b) w
    | _ => False
  | .binOp op t x y _ =>
    bif isSh op then
      match ev E x, y with
      | some (.int k a), .const (.int _ (.ofNat n)) => K (shWp op k a n) w
      | some (.int k a), y => match ev E y with
        | some (.int _ b) => ShVC b (K (shWp op k a b.toNat) w)
        | _ => False
      | _, _ => False
    else bif isDiv op then
      match ev E x, y with
      | some (.int k a), .const (.int k' (.ofNat (n + 1))) => if k = k' then K (divV op k a ((n + 1 : Nat) : Int)) w else False
      | some (.int k a), y => match ev E y with
        | some (.int k' b) => if k = k' then DivVC b (K (divV op k a b) w) else False
        | _ => False
      | _, _ => False
    else match ev E x, ev E y with
      | some x, some y => match binV P op t x y with
        | some v => K v w
        | none => False
      | _, _ => False
  | .convert s d x => match P.underlying s, P.underlying d, ev E x with
    | some (.slice e), some .string, some v => match P.underlying e with
      | some (.int .u8) => StrVC P v w fun s => K (.string s) w
      | _ => False
    | _, _, _ => match pureOp P E (.convert s d x) with
      | some v => K v w
      | none => False
  | .call c => match c.callee, evs E c.args.toList with
    | .builtin .append, some [s, x] => AppVC P c.argTypes o.type s x w fun A n c w' => K (.slice A n c) w'
    | .builtin .copy, some [s, x] => CopyVC P c.argTypes o.type s x w fun n w' => K (.int .i64 n) w'
    | .builtin .delete, some [m, k] => DelVC P c.argTypes o.type m k w fun w' => K (.tuple #[]) w'
    | .builtin .len, some [.map m] => LenVC P c.argTypes o.type (.map m) w fun n => K (.int .i64 n) w
    | .value y, some vs => match ev E y, zr P o.type with
      | some (.func (.func f) first cap), some z => bif F f then CallVC P f (first ++ vs.toArray ++ cap) w K z Qp
        else match noZeroT P f, (first ++ vs.toArray ++ cap).toList with
          | some e, [.int .i64 n] => NoZeroVC w e n fun g c w' => K (.slice (some ⟨g, 0, none⟩) n.toNat c) w'
          | _, _ => False
      | _, _ => False
    | .invoke y name, some vs => match ev E y, zr P o.type with
      | some (.iface t v), some z => match methT P t name with
        | some f => bif F f then CallVC P f (#[v] ++ vs.toArray) w K z Qp else False
        | none => False
      | _, _ => False
    | _, _ => match pureOp P E (.call c) with
      | some v => K v w
      | none => False
  | .panic x => match ev E x with
    | some (.iface t v) => Qp [{ v := .iface t v, recovered := false }] w
    | _ => False
  | .makeMap _ r => match r with
    | none => NewVC w (.map #[] 0) fun g w' => K (.map (some g)) w'
    | some _ => False
  | .lookup t m x ok => match P.underlying t, ev E m, ev E x with
    | some (.map _ e), some m, some k => match zr P e with
      | some z => LookVC P t m k ok z w fun v => K v w
      | none => False
    | _, _, _ => False
  | .mapUpdate t m k x => match ev E m, ev E k, ev E x with
    | some m, some k, some v => MapSetVC P t m k v w fun w' => K undef w'
    | _, _, _ => False
  | .range t x => match ev E x with
    | some (.map m) => RangeVC P t (.map m) w fun g w' => K (.pointer (some ⟨g, 0, none⟩)) w'
    | _ => False
  | .next it s => match s, ev E it with
    | false, some (.pointer (some a)) => NextVC P (.pointer (some a)) o.type w (fun w' => K (.tuple #[.bool false]) w') fun k v w' => K (.tuple #[.bool true, k, v]) w'
    | _, _ => False
  | .entry it => match ev E it with
    | some (.pointer (some a)) => EntryVC P (.pointer (some a)) w fun k p => K (.tuple #[k, .pointer p]) w
    | _ => False
  | op => match pureOp P E op with
    | some v => K v w
    | none => False
end Go.Eng
