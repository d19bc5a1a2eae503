/- The lists of bytes of pieces; how many there are; pieces' memory in parts. -/
import Derived.Test.YteppichfkeknbaaGreatDoorDl
import Derived.Test.YteppichfkeknbaaGreatDoorBm
import Derived.Test.YteppichfkeknbaaGreatDoorBh
import Derived.Test.YteppichfkeknbaaGreatDoorDf
import Derived.Test.YteppichfkeknbaaGreatDoorBn
import Derived.Test.YteppichfkeknbaaGreatDoorCc
namespace Go.Eng
open Go Go.RowKit
def grS (s : Sl) (l : List Int) : GR := ⟨s.A, s.n, s.k, l.map (.int .u8)⟩
def grO (s : Sl) (rs : List OptR) : GR := ⟨s.A, s.n, s.k, (rs.map fun r => r.v.cells).flatten⟩
def grE (s : Sl) (rs : List ExtR) : GR := ⟨s.A, s.n, s.k, (rs.map fun r => r.v.cells).flatten⟩
def grOpts (os : List OptR) : List GR := os.map fun o => grS o.v.data o.data
def gr4 (r : Ip4R) : List GR := grS r.v.data r.data :: grOpts r.opts
def rows4 (rs : List Ip4R) : List GR := rs.flatMap gr4
def grX (x : ExtR) : List GR := grS x.v.data x.data :: grOpts x.opts
def gr6 (r : Ip6R) : List GR := grS r.v.data r.data :: r.exts.flatMap grX
def rows6 (rs : List Ip6R) : List GR := rs.flatMap gr6
theorem pieces_len {a b mtu n : Nat} (ha : a + 8 ≤ mtu) (hb : b + 8 ≤ mtu) : ∀ f p, (pieces a b mtu n f p).length ≤ (n - p) / 8 + 1
  | 0, _ => by unfold pieces; simp
  | f + 1, p => by
    unfold pieces
    split
    · simp
    · have h1 := pieces_len (n := n) ha hb f (p + room a b mtu p / 8 * 8)
      have h2 := room_ge ha hb p
      rw [List.length_cons]
      omega
theorem split4_few (d : Ip4D) (mtu : Int) : (split4S d mtu).1.length ≤ 8193 := by
  unfold split4S
  split
  · simp
  · rename_i hc
    have hc : check4S d = 0 := Classical.not_not.1 hc
    split
    · simp
    · split
      · simp
      · split
        · simp
        · rw [List.length_map]
          have h1 := (check4S_ok hc).2.2.1
          unfold tot4 at h1
          have h2 := hd4_two d
          have := pieces_len (a := hd4 d) (b := hd4k d) (mtu := mtu.toNat) (n := d.data.length) (by omega) (by omega) (d.data.length - 0 + 1) 0
          unfold parts
          omega
theorem ser6S_small {d : Ip6D} (h : (ser6S d).2 = 0) : (ser6S d).1.length ≤ 65535 ∧ d.exts.length ≤ 8 := by
  rcases ser6S_cases d with ⟨h0, _⟩ | ⟨_, _, hh, _, hl, e⟩
  · exact absurd h h0
  · refine ⟨?_, (headersS_ok hh).1⟩
    rw [e]
    simp only [List.length_append]
    have h1 : ∀ n, (head6 d n).length = 8 := fun _ => rfl
    have h2 : d.src.bytes.length = 16 := rfl
    have h3 : d.dst.bytes.length = 16 := rfl
    rw [h1, h2, h3]
    omega
theorem split6_few (d : Ip6D) (mtu id : Int) : (split6S d mtu id).1.length ≤ 8193 ∧ ∀ q ∈ (split6S d mtu id).1, q.exts.length ≤ 8 := by
  by_cases h : (split6S d mtu id).2 = 0
  · refine ⟨?_, fun q hq => ?_⟩
    · obtain ⟨h1, -, -, -, -, hcase⟩ := split6_fit h
      rcases hcase with ⟨_, e⟩ | ⟨hf, _, hm, e, _, _⟩
      · rw [e]; simp
      · rw [e]
        show ((parts _ _ _ _ _).map _).length ≤ _
        rw [List.length_map]
        have h2 := (split6_len h1 hf 0).2.2.1
        have h3 := (ser6S_small h1).1
        have := pieces_len (a := hd6 d) (b := hd6 d) (mtu := mtu.toNat) (n := (rest6 d).length) hm hm ((rest6 d).length - 0 + 1) 0
        unfold parts
        omega
    · obtain ⟨i, hi⟩ := List.getElem?_of_mem hq
      exact (ser6S_small ((may6 h).2 i q hi).1).2
  · rw [Go.Proofs.YteppichfkeknbaaGreatDoor.N6.split6_nil h]
    exact ⟨by simp, fun q hq => by cases hq⟩
theorem sum_le4 {B : Nat} : ∀ (rs : List Ip4R), (∀ r ∈ rs, r.opts.length ≤ B) → (rows4 rs).length ≤ rs.length * (1 + B)
  | [], _ => by simp [rows4]
  | r :: rs, h => by
    have h1 := sum_le4 rs fun x hx => h x (by simp [hx])
    have h2 := h r (by simp)
    have e : rows4 (r :: rs) = gr4 r ++ rows4 rs := rfl
    rw [e, List.length_append, List.length_cons, Nat.add_mul, Nat.one_mul]
    simp only [gr4, grOpts, List.length_cons, List.length_map]
    omega
theorem sum_leX {B : Nat} : ∀ (xs : List ExtR), (∀ x ∈ xs, x.opts.length ≤ B) → (xs.flatMap grX).length ≤ xs.length * (1 + B)
  | [], _ => by simp
  | x :: xs, h => by
    have h1 := sum_leX xs fun y hy => h y (by simp [hy])
    have h2 := h x (by simp)
    rw [List.flatMap_cons, List.length_append, List.length_cons, Nat.add_mul, Nat.one_mul]
    simp only [grX, grOpts, List.length_cons, List.length_map]
    omega
theorem sum_le6 {B : Nat} : ∀ (rs : List Ip6R), (∀ r ∈ rs, r.exts.length ≤ 8 ∧ ∀ x ∈ r.exts, x.opts.length ≤ B) → (rows6 rs).length ≤ rs.length * (1 + 8 * (1 + B))
  | [], _ => by simp [rows6]
  | r :: rs, h => by
    have h1 := sum_le6 rs fun x hx => h x (by simp [hx])
    obtain ⟨h2, h3⟩ := h r (by simp)
    have h4 := sum_leX r.exts h3
    have h5 : r.exts.length * (1 + B) ≤ 8 * (1 + B) := Nat.mul_le_mul_right _ h2
    have e : rows6 (r :: rs) = gr6 r ++ rows6 rs := rfl
    rw [e, List.length_append, List.length_cons, Nat.add_mul, Nat.one_mul]
    simp only [gr6, List.length_cons]
    omega
theorem perm_parts {α β : Type} {A O : α → β} {P : α → List β} : ∀ l : List α, (l.map A ++ l.flatMap fun x => O x :: P x).Perm (l.map O ++ l.flatMap fun x => A x :: P x)
  | [] => .refl _
  | x :: l => by
    have ih := perm_parts (A := A) (O := O) (P := P) l
    rw [List.map_cons, List.map_cons, List.flatMap_cons, List.flatMap_cons, List.cons_append, List.cons_append]
    have e1 : (l.map A ++ (O x :: P x ++ l.flatMap fun x => O x :: P x)).Perm (O x :: (P x ++ (l.map O ++ l.flatMap fun x => A x :: P x))) := by
      refine (List.perm_append_comm_assoc _ _ _).trans ?_
      exact .cons _ ((ih.append_left (P x)))
    have e2 : (l.map O ++ (A x :: P x ++ l.flatMap fun x => A x :: P x)).Perm (A x :: (P x ++ (l.map O ++ l.flatMap fun x => A x :: P x))) := List.perm_append_comm_assoc _ _ _
    exact ((e1.cons _).trans (.swap _ _ _)).trans (e2.symm.cons _)
end Go.Eng
namespace Go.Proofs.YteppichfkeknbaaGreatDoor
namespace N6
open Go.Eng Go.RowKit
section
variable {w : World} {Γ : List Fct} {b : Nat} {s : Sl}
abbrev rwB (b : Nat) (g : GR) : Fct := rawR b 5 1 g
abbrev rwO (b : Nat) (g : GR) : Fct := rawR b 100 2 g
abbrev rwE (b : Nat) (g : GR) : Fct := rawR b 81 3 g
theorem rowB_le (s : Sl) (l : List Int) : (∀ w, (rowB b s l).φ w → (rwB b (grS s l)).φ w) ∧ ∀ k, (rwB b (grS s l)).R k → (rowB b s l).R k := own_le_row (A := s.A) (n := s.n) (c := s.k) (Nat.le_refl b)
theorem rowO_le (s : Sl) (rs : List OptR) : (∀ w, (rowO b s rs).φ w → (rwO b (grO s rs)).φ w) ∧ ∀ k, (rwO b (grO s rs)).R k → (rowO b s rs).R k := own_le_row (A := s.A) (n := s.n) (c := s.k) (Nat.le_refl b)
theorem rowE_le (s : Sl) (rs : List ExtR) : (∀ w, (rowE b s rs).φ w → (rwE b (grE s rs)).φ w) ∧ ∀ k, (rwE b (grE s rs)).R k → (rowE b s rs).R k := own_le_row (A := s.A) (n := s.n) (c := s.k) (Nat.le_refl b)
theorem optFs_le (s : Sl) (rs : List OptR) : AllLe (optFs b s rs) (rwO b (grO s rs) :: (grOpts rs).map (rwB b)) := by
  unfold grOpts
  rw [List.map_map]
  exact .cons (rowO_le s rs).1 (rowO_le s rs).2 (AllLe.map rs fun r _ => rowB_le r.v.data r.data)
/-- The memory of pieces of version 4: the lists of options, the bytes. -/
theorem split_four {rs : List Ip4R} (H : Sep (Γ ++ ip4Fs b s rs) w) : Sep (Γ ++ (rowI4 b s rs :: (rs.map (fun r => rwO b (grO r.v.opts r.opts)) ++ (rows4 rs).map (rwB b)))) w := by
  have h1 : AllLe (ip4Fs b s rs) (rowI4 b s rs :: (rs.map (fun r => rwB b (grS r.v.data r.data)) ++ rs.flatMap fun r => rwO b (grO r.v.opts r.opts) :: (grOpts r.opts).map (rwB b))) :=
    .cons (fun _ h => h) (fun _ h => h) ((AllLe.map rs fun r _ => rowB_le r.v.data r.data).append (AllLe.flatMap rs fun r _ => optFs_le r.v.opts r.opts))
  have H := ((AllLe.refl Γ).append h1).sep H
  refine H.perm ((List.Perm.cons _ ?_).append_left Γ)
  have e : (rows4 rs).map (rwB b) = rs.flatMap fun r => rwB b (grS r.v.data r.data) :: (grOpts r.opts).map (rwB b) := by
    unfold rows4; rw [List.map_flatMap]; rfl
  rw [e]
  exact (perm_parts (A := fun r : Ip4R => rwB b (grS r.v.data r.data)) (O := fun r : Ip4R => rwO b (grO r.v.opts r.opts)) (P := fun r : Ip4R => (grOpts r.opts).map (rwB b)) rs).symm
theorem extF_le (x : ExtR) : AllLe (extF b x) (rwO b (grO x.v.opts x.opts) :: (grOpts x.opts).map (rwB b) ++ [rwB b (grS x.v.data x.data)]) :=
  (optFs_le x.v.opts x.opts).append (.cons (rowB_le _ _).1 (rowB_le _ _).2 .nil)
def allX (rs : List Ip6R) : List ExtR := rs.flatMap fun r => r.exts
/-- The memory of pieces of version 6: the lists of headers, of options, the bytes. -/
theorem split_six {rs : List Ip6R} (H : Sep (Γ ++ ip6Fs b s rs) w) : Sep (Γ ++ (rowI6 b s rs :: (rs.map (fun r => rwE b (grE r.v.exts r.exts)) ++ ((allX rs).map (fun x => rwO b (grO x.v.opts x.opts)) ++ (rows6 rs).map (rwB b))))) w := by
  have h1 : AllLe (ip6Fs b s rs) (rowI6 b s rs :: (rs.map (fun r => rwB b (grS r.v.data r.data)) ++ rs.flatMap fun r => rwE b (grE r.v.exts r.exts) :: r.exts.flatMap fun x => rwO b (grO x.v.opts x.opts) :: (grOpts x.opts).map (rwB b) ++ [rwB b (grS x.v.data x.data)])) :=
    .cons (fun _ h => h) (fun _ h => h) ((AllLe.map rs fun r _ => rowB_le r.v.data r.data).append (AllLe.flatMap rs fun r _ => .cons (rowE_le _ _).1 (rowE_le _ _).2 (AllLe.flatMap r.exts fun x _ => extF_le x)))
  have H := ((AllLe.refl Γ).append h1).sep H
  refine H.perm ((List.Perm.cons _ ?_).append_left Γ)
  have p1 := perm_parts (A := fun r : Ip6R => rwB b (grS r.v.data r.data)) (O := fun r : Ip6R => rwE b (grE r.v.exts r.exts)) (P := fun r : Ip6R => r.exts.flatMap fun x => rwO b (grO x.v.opts x.opts) :: (grOpts x.opts).map (rwB b) ++ [rwB b (grS x.v.data x.data)]) rs
  refine List.Perm.symm (p1.trans ?_)
  refine List.Perm.append_left _ ?_
  have p2 : ∀ xs : List ExtR, (xs.flatMap fun x => rwO b (grO x.v.opts x.opts) :: (grOpts x.opts).map (rwB b) ++ [rwB b (grS x.v.data x.data)]).Perm (xs.map (fun x => rwO b (grO x.v.opts x.opts)) ++ (xs.flatMap grX).map (rwB b)) := by
    intro xs
    induction xs with
    | nil => exact .refl _
    | cons x xs ih =>
      rw [List.flatMap_cons, List.map_cons, List.flatMap_cons, List.map_append, List.cons_append, List.cons_append]
      refine .cons _ ?_
      have e : (grX x).map (rwB b) = rwB b (grS x.v.data x.data) :: (grOpts x.opts).map (rwB b) := rfl
      rw [e]
      refine (List.Perm.append (List.perm_append_singleton _ _) ih).trans ?_
      exact (List.perm_append_comm_assoc _ _ _)
  have p3 : ∀ rs : List Ip6R, (rs.flatMap fun r => rwB b (grS r.v.data r.data) :: r.exts.flatMap fun x => rwO b (grO x.v.opts x.opts) :: (grOpts x.opts).map (rwB b) ++ [rwB b (grS x.v.data x.data)]).Perm ((allX rs).map (fun x => rwO b (grO x.v.opts x.opts)) ++ (rows6 rs).map (rwB b)) := by
    intro rs
    induction rs with
    | nil => exact .refl _
    | cons r rs ih =>
      have e1 : (allX (r :: rs)).map (fun x => rwO b (grO x.v.opts x.opts)) = r.exts.map (fun x => rwO b (grO x.v.opts x.opts)) ++ (allX rs).map (fun x => rwO b (grO x.v.opts x.opts)) := by unfold allX; rw [List.flatMap_cons, List.map_append]
      have e2 : (rows6 (r :: rs)).map (rwB b) = rwB b (grS r.v.data r.data) :: ((r.exts.flatMap grX).map (rwB b) ++ (rows6 rs).map (rwB b)) := by
        have : rows6 (r :: rs) = gr6 r ++ rows6 rs := rfl
        rw [this, List.map_append]; rfl
      rw [e1, e2, List.flatMap_cons, List.cons_append]
      have q1 := ((p2 r.exts).append ih).cons (rwB b (grS r.v.data r.data))
      refine q1.trans ?_
      have q2 : ((r.exts.map (fun x => rwO b (grO x.v.opts x.opts)) ++ (r.exts.flatMap grX).map (rwB b)) ++ ((allX rs).map (fun x => rwO b (grO x.v.opts x.opts)) ++ (rows6 rs).map (rwB b))).Perm ((r.exts.map (fun x => rwO b (grO x.v.opts x.opts)) ++ (allX rs).map (fun x => rwO b (grO x.v.opts x.opts))) ++ ((r.exts.flatMap grX).map (rwB b) ++ (rows6 rs).map (rwB b))) := by
        rw [List.append_assoc, List.append_assoc]
        exact (List.perm_append_comm_assoc _ _ _).append_left _
      exact (q2.cons _).trans List.perm_middle.symm
  exact p3 rs
end
end N6
end Go.Proofs.YteppichfkeknbaaGreatDoor
/- lists4, lists6 and own6: the lists of bytes of pieces, one behind the other. -/
namespace Go.Proofs.YteppichfkeknbaaGreatDoor
namespace N6
open Go.Eng Go.RowKit
section
variable {w w0 : World} {s : Sl}
/-- One list more. -/
theorem app_list {Γ : List Fct} {b n c g : Nat} {A : Option Addr} {xs : List GR} {x : GR} (H : Sep (Fct.own b 26 1 (.slice A n c) n (xs.map GR.val) :: Γ) w) (hs : Cells w (some ⟨g, 0, none⟩) [x.val]) (hn : n ≤ 1000000000000) (hb : b ≤ w.heap.size)
    {F : Option Addr → Nat → Nat → World → Prop} (h : ∀ A2 c2 w', Sep (Fct.own b 26 1 (.slice A2 (n + 1) c2) (n + 1) ((xs ++ [x]).map GR.val) :: Γ) w' → F A2 (n + 1) c2 w') :
    AppVC Tryz.prog #[53, 53] 53 (.slice A n c) (.slice (some ⟨g, 0, none⟩) 1 1) w F :=
  AppVC.sep H 0 Tryz.underlying53 tSl rfl (by decide) rfl hs rfl (fun v hv => by simp at hv; subst hv; rfl) (by omega) (by decide) hb fun A2 c2 w' H' _ => h A2 c2 w' (by rw [List.map_append]; exact H')
/-- A step of the loops: one list's slice joins the row. -/
theorem step_list {b n c : Nat} {A : Option Addr} {xs : List GR} {x : GR} (H : Sep [Fct.own b 26 1 (.slice A n c) n (xs.map GR.val), Fct.rest w0 None] w) (hx : xs.length = n) (hn : n ≤ 1000000000000) (hb : b ≤ w0.heap.size)
    {F : Option Addr → Nat → Nat → World → Prop} (h : ∀ A2 c2 w', Sep [Fct.own b 26 1 (.slice A2 (n + 1) c2) (n + 1) ((xs ++ [x]).map GR.val), Fct.rest w0 None] w' → (xs ++ [x]).length = n + 1 → F A2 (n + 1) c2 w') :
    NewVC w (.cells #[.slice x.A x.n x.c] 26) fun g w1 => AppVC Tryz.prog #[53, 53] 53 (.slice A n c) (.slice (some ⟨g, 0, none⟩) 1 1) w1 F := by
  refine NewVC.sep H fun g w1 H => ?_
  have hz := (H.restOf 1 rfl).size
  refine app_list (x := x) (xs := xs) H (Cells.blk0 (H.blk 2 rfl)) hn (by omega) fun A2 c2 w' H' => h A2 c2 w' (H'.take 2) (by simp [hx])
theorem rows4_pre {rs : List Ip4R} {i : Nat} {r : Ip4R} (hr : rs[i]? = some r) : rows4 rs = rows4 (rs.take i) ++ (gr4 r ++ rows4 (rs.drop (i + 1))) := by
  conv => lhs; rw [← List.take_append_drop i rs, drop_consA hr]
  unfold rows4
  rw [List.flatMap_append, List.flatMap_cons]
theorem rows6_pre {rs : List Ip6R} {i : Nat} {r : Ip6R} (hr : rs[i]? = some r) : rows6 rs = rows6 (rs.take i) ++ (gr6 r ++ rows6 (rs.drop (i + 1))) := by
  conv => lhs; rw [← List.take_append_drop i rs, drop_consA hr]
  unfold rows6
  rw [List.flatMap_append, List.flatMap_cons]
theorem grX_pre {xs : List ExtR} {i : Nat} {x : ExtR} (hx : xs[i]? = some x) : xs.flatMap grX = (xs.take i).flatMap grX ++ (grX x ++ (xs.drop (i + 1)).flatMap grX) := by
  conv => lhs; rw [← List.take_append_drop i xs, drop_consA hx]
  rw [List.flatMap_append, List.flatMap_cons]
theorem opts_pre {os : List OptR} {i : Nat} {o : OptR} (ho : os[i]? = some o) : grOpts (os.take (i + 1)) = grOpts (os.take i) ++ [grS o.v.data o.data] := by
  unfold grOpts; rw [take_snocA ho, List.map_append]; rfl
set_option maxHeartbeats 4000000 in
theorem lists4_spec {rs : List Ip4R} (hA : Ip4sAt w s rs) (hN : (rows4 rs).length ≤ 900000000000) : Calls Tryz.prog 11 #[s.val] w fun e w' => ∃ A c, e = .returned (.slice A (rows4 rs).length c) ∧ Sep [Fct.own w.heap.size 26 1 (.slice A (rows4 rs).length c) (rows4 rs).length ((rows4 rs).map GR.val), Fct.rest w None] w' := by
  refine weirlaw13_lists4_of s.A s.n s.k w _ ?_
  unfold weirlaw13_lists4_VC
  have hl := hA.len
  have hsm := hA.small
  refine LoopVC.of (fun st w' => ∃ i : Nat, st.2 = (i : Int) ∧ i ≤ s.n ∧ st.1.2.1 = (rows4 (rs.take i)).length ∧ Sep [Fct.own w.heap.size 26 1 (.slice st.1.1 st.1.2.1 st.1.2.2) st.1.2.1 ((rows4 (rs.take i)).map GR.val), Fct.rest w None] w') (fun st _ => ((s.n : Int) - st.2).toNat)
    ⟨0, rfl, Nat.zero_le _, rfl, ((Sep.start0 w).nil _ _ _).front⟩ ?_
  rintro ⟨⟨A1, n1, q1⟩, _⟩ w1 ⟨i, rfl, hi, hn1, H⟩
  simp only at hn1 H
  show weirlaw13_lists4_L58 _ s.A s.n A1 n1 q1 (i : Int) w1 _
  unfold weirlaw13_lists4_L58
  refine Br.dec (fun hlt => ?_) fun hge => ?_
  rotate_left
  · have hin : i = s.n := by omega
    rw [List.take_of_length_le (by omega)] at hn1 H
    subst hn1
    exact ⟨A1, q1, rfl, H⟩
  obtain ⟨r, hr⟩ : ∃ r, rs[i]? = some r := ⟨_, List.getElem?_eq_getElem (by omega)⟩
  have hmem := List.mem_of_getElem? hr
  have hpre := rows4_pre hr
  have hlen : (rows4 rs).length = (rows4 (rs.take i)).length + ((gr4 r).length + (rows4 (rs.drop (i + 1))).length) := by rw [hpre]; simp
  have hg4 : (gr4 r).length = r.opts.length + 1 := by simp [gr4, grOpts]
  have e1 : IntKind.i64.wrap ((i : Int) + 1) = ((i + 1 : Nat) : Int) := by rw [w64 (by omega) (by omega)]; omega
  have hO := (hA.each r hmem).opts
  have hol := hO.len
  have hos := hO.small
  have at1 : ∀ {w'}, Ext w w' → ∀ {F : Addr → Prop}, (∀ a, CellsAt w' a 0 r.v.cells → F a) → IdxVC s.A s.n 43 (i : Int) F := fun {w'} hE {F} hF => (hA.ext hE).idx hr hF
  refine at1 (H.restOf 1 rfl) fun a ha => ⟨_, _, _, cells_get ha 42 rfl, ?_⟩
  refine step_list (x := grS r.v.data r.data) H hn1.symm (by omega) (Nat.le_refl _) fun A2 c2 w2 H hl2 => ?_
  refine LoopVC.of (fun st w' => ∃ k : Nat, st.2 = (k : Int) ∧ k ≤ r.opts.length ∧ st.1.2.1 = n1 + 1 + k ∧ Sep [Fct.own w.heap.size 26 1 (.slice st.1.1 st.1.2.1 st.1.2.2) st.1.2.1 ((rows4 (rs.take i) ++ [grS r.v.data r.data] ++ grOpts (r.opts.take k)).map GR.val), Fct.rest w None] w') (fun st _ => ((r.opts.length : Int) - st.2).toNat)
    ⟨0, rfl, Nat.zero_le _, rfl, by simpa [grOpts] using H⟩ ?_
  rintro ⟨⟨A3, n3, c3⟩, _⟩ w3 ⟨k, rfl, hk, hn3, H⟩
  simp only at hn3 H
  show weirlaw13_lists4_L7462 s.A s.n (i : Int) _ A3 n3 c3 (k : Int) w3 _
  unfold weirlaw13_lists4_L7462
  refine at1 (H.restOf 1 rfl) fun a ha => ⟨_, _, _, cells_get ha 41 rfl, Br.dec (fun hk1 => ?_) fun hk1 => ?_⟩
  · obtain ⟨o, ho⟩ : ∃ o, r.opts[k]? = some o := ⟨_, List.getElem?_eq_getElem (by omega)⟩
    have e2 : IntKind.i64.wrap ((k : Int) + 1) = ((k + 1 : Nat) : Int) := by rw [w64 (by omega) (by omega)]; omega
    refine at1 (H.restOf 1 rfl) fun a ha => ⟨_, _, _, cells_get ha 41 rfl, ?_⟩
    refine OptsAt.idxD (S := fun w' => OptsAt w' r.v.opts r.opts) (hO.ext (H.restOf 1 rfl)) (fun w' h => h) ho fun a ha => ⟨_, _, _, c1 (ha _ (hO.ext (H.restOf 1 rfl))), ?_⟩
    refine step_list (x := grS o.v.data o.data) H (by simp [grOpts, hn1, hn3, List.length_take]; omega) (by omega) (Nat.le_refl _) fun A4 c4 w4 H hl4 => ?_
    refine ⟨⟨k + 1, e2, by omega, by show n3 + 1 = _; omega, ?_⟩, by simp only [e2]; omega⟩
    rw [opts_pre ho, ← List.append_assoc]; exact H
  · have hkn : k = r.opts.length := by omega
    refine ⟨⟨i + 1, e1, by omega, ?_, ?_⟩, by simp only [e1]; omega⟩
    · show n3 = _
      rw [take_snocA hr]
      unfold rows4
      rw [List.flatMap_append, List.length_append]
      simp only [List.flatMap_cons, List.flatMap_nil, List.append_nil]
      have : (rows4 (rs.take i)).length = ((rs.take i).flatMap gr4).length := rfl
      omega
    · have e5 : rows4 (rs.take (i + 1)) = rows4 (rs.take i) ++ [grS r.v.data r.data] ++ grOpts (r.opts.take k) := by
        rw [take_snocA hr, List.take_of_length_le (l := r.opts) (by omega)]
        unfold rows4
        rw [List.flatMap_append]
        simp [gr4]
      rw [e5]; exact H
set_option maxHeartbeats 8000000 in
theorem lists6_spec {rs : List Ip6R} (hA : Ip6sAt w s rs) (hN : (rows6 rs).length ≤ 900000000000) : Calls Tryz.prog 12 #[s.val] w fun e w' => ∃ A c, e = .returned (.slice A (rows6 rs).length c) ∧ Sep [Fct.own w.heap.size 26 1 (.slice A (rows6 rs).length c) (rows6 rs).length ((rows6 rs).map GR.val), Fct.rest w None] w' := by
  refine weirlaw13_lists6_of s.A s.n s.k w _ ?_
  unfold weirlaw13_lists6_VC
  have hl := hA.len
  have hsm := hA.small
  refine LoopVC.of (fun st w' => ∃ i : Nat, st.2 = (i : Int) ∧ i ≤ s.n ∧ st.1.2.1 = (rows6 (rs.take i)).length ∧ Sep [Fct.own w.heap.size 26 1 (.slice st.1.1 st.1.2.1 st.1.2.2) st.1.2.1 ((rows6 (rs.take i)).map GR.val), Fct.rest w None] w') (fun st _ => ((s.n : Int) - st.2).toNat)
    ⟨0, rfl, Nat.zero_le _, rfl, ((Sep.start0 w).nil _ _ _).front⟩ ?_
  rintro ⟨⟨A1, n1, q1⟩, _⟩ w1 ⟨i, rfl, hi, hn1, H⟩
  simp only at hn1 H
  show weirlaw13_lists6_L58 _ s.A s.n A1 n1 q1 (i : Int) w1 _
  unfold weirlaw13_lists6_L58
  refine Br.dec (fun hlt => ?_) fun hge => ?_
  rotate_left
  · have hin : i = s.n := by omega
    rw [List.take_of_length_le (by omega)] at hn1 H
    subst hn1
    exact ⟨A1, q1, rfl, H⟩
  obtain ⟨r, hr⟩ : ∃ r, rs[i]? = some r := ⟨_, List.getElem?_eq_getElem (by omega)⟩
  have hmem := List.mem_of_getElem? hr
  have hpre := rows6_pre hr
  have hlen : (rows6 rs).length = (rows6 (rs.take i)).length + ((gr6 r).length + (rows6 (rs.drop (i + 1))).length) := by rw [hpre]; simp
  have hg6 : (gr6 r).length = (r.exts.flatMap grX).length + 1 := by simp [gr6]
  have e1 : IntKind.i64.wrap ((i : Int) + 1) = ((i + 1 : Nat) : Int) := by rw [w64 (by omega) (by omega)]; omega
  have hX := (hA.each r hmem).exts
  have hxl := hX.len
  have hxs := hX.small
  have at1 : ∀ {w'}, Ext w w' → ∀ {F : Addr → Prop}, (∀ a, CellsAt w' a 0 r.v.cells → F a) → IdxVC s.A s.n 44 (i : Int) F := fun {w'} hE {F} hF => (hA.ext hE).idx hr hF
  refine at1 (H.restOf 1 rfl) fun a ha => ⟨_, _, _, cells_get ha 43 rfl, ?_⟩
  refine step_list (x := grS r.v.data r.data) H hn1.symm (by omega) (Nat.le_refl _) fun A2 c2' w2 H hl2 => ?_
  obtain ⟨P1, hP1⟩ : ∃ P1, P1 = rows6 (rs.take i) ++ [grS r.v.data r.data] := ⟨_, rfl⟩
  rw [← hP1] at H hl2
  refine LoopVC.of (fun st w' => ∃ k : Nat, st.2 = (k : Int) ∧ k ≤ r.exts.length ∧ st.1.2.1 = n1 + 1 + ((r.exts.take k).flatMap grX).length ∧ Sep [Fct.own w.heap.size 26 1 (.slice st.1.1 st.1.2.1 st.1.2.2) st.1.2.1 ((P1 ++ (r.exts.take k).flatMap grX).map GR.val), Fct.rest w None] w') (fun st _ => ((r.exts.length : Int) - st.2).toNat)
    ⟨0, rfl, Nat.zero_le _, rfl, by simpa using H⟩ ?_
  rintro ⟨⟨A3, n3, q3⟩, _⟩ w3 ⟨k, rfl, hk, hn3, H⟩
  simp only at hn3 H
  show weirlaw13_lists6_L7462 s.A s.n (i : Int) _ A3 n3 q3 (k : Int) w3 _
  unfold weirlaw13_lists6_L7462
  refine at1 (H.restOf 1 rfl) fun a ha => ⟨_, _, _, cells_get ha 37 rfl, Br.dec (fun hk1 => ?_) fun hk1 => ?_⟩
  · obtain ⟨x, hx⟩ : ∃ x, r.exts[k]? = some x := ⟨_, List.getElem?_eq_getElem (by omega)⟩
    have hxm := List.mem_of_getElem? hx
    have hxp := grX_pre hx
    have hxlen : (r.exts.flatMap grX).length = ((r.exts.take k).flatMap grX).length + ((grX x).length + ((r.exts.drop (k + 1)).flatMap grX).length) := by rw [hxp]; simp
    have hgx : (grX x).length = x.opts.length + 1 := by simp [grX, grOpts]
    have e2 : IntKind.i64.wrap ((k : Int) + 1) = ((k + 1 : Nat) : Int) := by rw [w64 (by omega) (by omega)]; omega
    have hO := hX.opts x hxm
    have hol := hO.len
    have hos := hO.small
    have at2 : ∀ {w'}, Ext w w' → ∀ {F : Addr → Prop}, (∀ a, CellsAt w' a 0 x.v.cells → F a) → IdxVC r.v.exts.A r.v.exts.n 3 (k : Int) F := fun {w'} hE {F} hF => ExtsAt.idxD (w := w') (S := fun w' => ExtsAt w' r.v.exts r.exts) (hX.ext hE) (fun w' h => h) hx fun a ha => hF a (ha _ (hX.ext hE))
    refine at1 (H.restOf 1 rfl) fun a ha => ⟨_, _, _, cells_get ha 37 rfl, ?_⟩
    refine at2 (H.restOf 1 rfl) fun a ha => ⟨_, _, _, c2 ha, ?_⟩
    refine step_list (x := grS x.v.data x.data) H (by rw [List.length_append, hl2, hn3]) (by omega) (Nat.le_refl _) fun A4 c4 w4 H hl4 => ?_
    obtain ⟨P2, hP2⟩ : ∃ P2, P2 = P1 ++ (r.exts.take k).flatMap grX ++ [grS x.v.data x.data] := ⟨_, rfl⟩
    rw [← hP2] at H hl4
    refine LoopVC.of (fun st w' => ∃ j : Nat, st.2 = (j : Int) ∧ j ≤ x.opts.length ∧ st.1.2.1 = n3 + 1 + j ∧ Sep [Fct.own w.heap.size 26 1 (.slice st.1.1 st.1.2.1 st.1.2.2) st.1.2.1 ((P2 ++ grOpts (x.opts.take j)).map GR.val), Fct.rest w None] w') (fun st _ => ((x.opts.length : Int) - st.2).toNat)
      ⟨0, rfl, Nat.zero_le _, rfl, by simpa [grOpts] using H⟩ ?_
    rintro ⟨⟨A5, n5, q5⟩, _⟩ w5 ⟨j, rfl, hj, hn5, H⟩
    simp only at hn5 H
    show weirlaw13_lists6_L955174 s.A s.n (i : Int) (k : Int) _ A5 n5 q5 (j : Int) w5 _
    unfold weirlaw13_lists6_L955174
    refine at1 (H.restOf 1 rfl) fun a ha => ⟨_, _, _, cells_get ha 37 rfl, at2 (H.restOf 1 rfl) fun a ha => ⟨_, _, _, c1 ha, Br.dec (fun hj1 => ?_) fun hj1 => ?_⟩⟩
    · obtain ⟨o, ho⟩ : ∃ o, x.opts[j]? = some o := ⟨_, List.getElem?_eq_getElem (by omega)⟩
      have e3 : IntKind.i64.wrap ((j : Int) + 1) = ((j + 1 : Nat) : Int) := by rw [w64 (by omega) (by omega)]; omega
      refine at1 (H.restOf 1 rfl) fun a ha => ⟨_, _, _, cells_get ha 37 rfl, at2 (H.restOf 1 rfl) fun a ha => ⟨_, _, _, c1 ha, ?_⟩⟩
      refine OptsAt.idxD (S := fun w' => OptsAt w' x.v.opts x.opts) (hO.ext (H.restOf 1 rfl)) (fun w' h => h) ho fun a ha => ⟨_, _, _, c1 (ha _ (hO.ext (H.restOf 1 rfl))), ?_⟩
      refine step_list (x := grS o.v.data o.data) H (by rw [List.length_append, hl4]; simp [grOpts, hn5]; omega) (by omega) (Nat.le_refl _) fun A6 c6 w6 H hl6 => ?_
      refine ⟨⟨j + 1, e3, by omega, by show n5 + 1 = _; omega, ?_⟩, by simp only [e3]; omega⟩
      rw [opts_pre ho, ← List.append_assoc]; exact H
    · have hjn : j = x.opts.length := by omega
      have e5 : (r.exts.take (k + 1)).flatMap grX = (r.exts.take k).flatMap grX ++ (grS x.v.data x.data :: grOpts x.opts) := by
        rw [take_snocA hx, List.flatMap_append]
        simp [grX]
      refine ⟨⟨k + 1, e2, by omega, ?_, ?_⟩, by simp only [e2]; omega⟩
      · show n5 = _
        rw [e5, List.length_append, List.length_cons]
        have : (grOpts x.opts).length = x.opts.length := by simp [grOpts]
        omega
      · rw [e5]
        rw [hP2, List.take_of_length_le (l := x.opts) (by omega)] at H
        have e6 : P1 ++ (List.flatMap grX (List.take k r.exts) ++ grS x.v.data x.data :: grOpts x.opts) = P1 ++ List.flatMap grX (List.take k r.exts) ++ [grS x.v.data x.data] ++ grOpts x.opts := by simp
        rw [e6]; exact H
  · have hkn : k = r.exts.length := by omega
    have e5 : rows6 (rs.take (i + 1)) = P1 ++ (r.exts.take k).flatMap grX := by
      rw [take_snocA hr, List.take_of_length_le (l := r.exts) (by omega), hP1]
      unfold rows6
      rw [List.flatMap_append]
      simp [gr6]
    refine ⟨⟨i + 1, e1, by omega, ?_, ?_⟩, by simp only [e1]; omega⟩
    · show n3 = _
      rw [e5, List.length_append, hl2]; omega
    · rw [e5]; exact H
/-- What own6 hands to own4: a datagram for each list of options. -/
def xV (x : ExtR) : Ip4V := { (Ip4V.z : Ip4V) with opts := x.v.opts }
set_option maxHeartbeats 8000000 in
theorem own6_spec {Γ0 : List Fct} {b : Nat} {rs : List Ip6R} (H : Sep (Γ0 ++ ((allX rs).map (fun x => rwO b (grO x.v.opts x.opts)) ++ rs.map fun r => rwE b (grE r.v.exts r.exts))) w) (h0 : Γ0[0]? = some (Fct.rest w0 None)) (hb : b ≤ w0.heap.size)
    (hl : ∀ w', (∀ f ∈ Γ0, f.φ w') → Recs w' s.A 44 (rs.map fun r => r.v.cells)) (hlen : rs.length = s.n) (hsm : s.n ≤ 4000001) (hX : ∀ r ∈ rs, ExtsFine r.v.exts r.exts) (hN : (allX rs).length ≤ 900000000000)
    (hE : ∀ w', (∀ f ∈ Γ0 ++ rs.map (fun r => rwE b (grE r.v.exts r.exts)), f.φ w') → ∀ r ∈ rs, Recs w' r.v.exts.A 3 (r.exts.map fun x => x.v.cells)) :
    Calls Tryz.prog 16 #[s.val] w fun e w' => e = .returned (.bool true) ∧ ∃ Δ, Sep (Γ0 ++ Δ) w' := by
  refine weirlaw13_own6_of s.A s.n s.k w _ ?_
  unfold weirlaw13_own6_VC
  obtain ⟨OF, hOF⟩ : ∃ OF, OF = (allX rs).map (fun x => rwO b (grO x.v.opts x.opts)) := ⟨_, rfl⟩
  obtain ⟨EF, hEF⟩ : ∃ EF, EF = rs.map (fun r => rwE b (grE r.v.exts r.exts)) := ⟨_, rfl⟩
  rw [← hOF, ← hEF] at H
  rw [← hEF] at hE
  have hpre : ∀ {i : Nat} {r : Ip6R}, rs[i]? = some r → allX rs = allX (rs.take i) ++ (r.exts ++ allX (rs.drop (i + 1))) := fun {i r} hr => by
    conv => lhs; rw [← List.take_append_drop i rs, drop_consA hr]
    unfold allX
    rw [List.flatMap_append, List.flatMap_cons]
  have rd : ∀ {w' : World} {i : Nat} {r : Ip6R}, (∀ f ∈ Γ0, f.φ w') → rs[i]? = some r → ∀ {F : Addr → Prop}, (∀ a, CellsAt w' a 0 r.v.cells → F a) → IdxVC s.A s.n 44 (i : Int) F := fun {w' i r} hg hr {F} hF =>
    IdxVC.recD (w := w') (fun w2 => w2 = w') rfl (fun w2 e => by rw [e]; exact hl w' hg) (by simpa using hlen) (cs := r.v.cells) (by rw [List.getElem?_map, hr]; rfl) fun a ha => hF a (ha w' rfl)
  refine LoopVC.of (fun st w' => ∃ i : Nat, st.2 = (i : Int) ∧ i ≤ s.n ∧ st.1.2.1 = (allX (rs.take i)).length ∧ Sep (Fct.own b 28 43 (.slice st.1.1 st.1.2.1 st.1.2.2) st.1.2.1 ((allX (rs.take i)).map fun x => (xV x).cells).flatten :: (Γ0 ++ (OF ++ EF))) w') (fun st _ => ((s.n : Int) - st.2).toNat)
    ⟨0, rfl, Nat.zero_le _, rfl, (H.nil b 28 43).front⟩ ?_
  rintro ⟨⟨A1, n1, q1⟩, _⟩ w1 ⟨i, rfl, hi, hn1, H⟩
  simp only at hn1
  have H : Sep (Fct.own b 28 43 (.slice A1 n1 q1) n1 ((allX (rs.take i)).map fun x => (xV x).cells).flatten :: (Γ0 ++ (OF ++ EF))) w1 := H
  show weirlaw13_own6_L58 _ s.A s.n A1 n1 q1 (i : Int) w1 _
  unfold weirlaw13_own6_L58
  have hmem0 : ∀ {Y : List Fct} {f : Fct} {w' : World}, Sep (f :: (Γ0 ++ Y)) w' → ∀ g ∈ Γ0, g.φ w' := fun H g hg => H.mem (List.mem_cons_of_mem _ (List.mem_append_left _ hg))
  have hsz : ∀ {Y : List Fct} {f : Fct} {w' : World}, Sep (f :: (Γ0 ++ Y)) w' → b ≤ w'.heap.size := fun H => Nat.le_trans hb (H.restOf 1 (by
    rw [List.getElem?_cons_succ, List.getElem?_append_left (List.getElem?_eq_some_iff.1 h0).1]; exact h0)).size
  refine Br.dec (fun hlt => ?_) fun hge => ?_
  · obtain ⟨r, hr⟩ : ∃ r, rs[i]? = some r := ⟨_, List.getElem?_eq_getElem (by omega)⟩
    have hmem := List.mem_of_getElem? hr
    have e1 : IntKind.i64.wrap ((i : Int) + 1) = ((i + 1 : Nat) : Int) := by rw [w64 (by omega) (by omega)]; omega
    have hxl := (hX r hmem).len
    have hxs := (hX r hmem).small
    have hlenX : (allX rs).length = (allX (rs.take i)).length + (r.exts.length + (allX (rs.drop (i + 1))).length) := by rw [hpre hr]; simp
    refine LoopVC.of (fun st w' => ∃ k : Nat, st.2 = (k : Int) ∧ k ≤ r.exts.length ∧ st.1.2.1 = n1 + k ∧ Sep (Fct.own b 28 43 (.slice st.1.1 st.1.2.1 st.1.2.2) st.1.2.1 ((allX (rs.take i) ++ r.exts.take k).map fun x => (xV x).cells).flatten :: (Γ0 ++ (OF ++ EF))) w') (fun st _ => ((r.exts.length : Int) - st.2).toNat)
      ⟨0, rfl, Nat.zero_le _, rfl, by simpa using H⟩ ?_
    rintro ⟨⟨A2, n2, q2⟩, _⟩ w2 ⟨k, rfl, hk, hn2, H⟩
    simp only at hn2
    have H : Sep (Fct.own b 28 43 (.slice A2 n2 q2) n2 ((allX (rs.take i) ++ r.exts.take k).map fun x => (xV x).cells).flatten :: (Γ0 ++ (OF ++ EF))) w2 := H
    show weirlaw13_own6_L3730 s.A s.n (i : Int) _ A2 n2 q2 (k : Int) w2 _
    unfold weirlaw13_own6_L3730
    refine rd (hmem0 H) hr fun a ha => ⟨_, _, _, cells_get ha 37 rfl, Br.dec (fun hk1 => ?_) fun hk1 => ?_⟩
    · obtain ⟨x, hx⟩ : ∃ x, r.exts[k]? = some x := ⟨_, List.getElem?_eq_getElem (by omega)⟩
      have e2 : IntKind.i64.wrap ((k : Int) + 1) = ((k + 1 : Nat) : Int) := by rw [w64 (by omega) (by omega)]; omega
      refine rd (hmem0 H) hr fun a ha => ⟨_, _, _, cells_get ha 37 rfl, ?_⟩
      have hrec := hE w2 (fun f hf => H.mem (List.mem_cons_of_mem _ (by
        rcases List.mem_append.1 hf with hf | hf
        · exact List.mem_append_left _ hf
        · exact List.mem_append_right _ (List.mem_append_right _ hf)))) r hmem
      refine IdxVC.recD (w := w2) (fun w3 => w3 = w2) rfl (fun w3 e => by rw [e]; exact hrec) (by simpa using hxl) (cs := x.v.cells) (by rw [List.getElem?_map, hx]; rfl) fun a ha => ⟨_, _, _, c1 (ha w2 rfl), ?_⟩
      refine NewVC.sep H fun g1 w3 H => ?_
      have hsrc : Cells w3 (some ⟨g1, 0, none⟩) (xV x).cells := Cells.blk0 (H.mem (f := Fct.blk g1 28 (xV x).cells) (List.mem_append_right _ List.mem_cons_self))
      have hz3 := hsz (Y := OF ++ EF) (w' := w3) (H.sub (List.sublist_append_left _ _))
      refine AppVC.sep (m := 1) H 0 Tryz.underlying34 tI4 rfl (by decide) rfl hsrc rfl (Ip4V.one _) (by omega) (by decide) hz3 fun A4 c4 w4 H4 _ => ?_
      refine ⟨⟨k + 1, e2, by omega, by show n2 + 1 = _; omega, ?_⟩, by simp only [e2]; omega⟩
      have H4 : Sep ((Fct.own b 28 43 (.slice A4 (n2 + 1) c4) (n2 + 1) (((allX (rs.take i) ++ r.exts.take k).map fun x => (xV x).cells).flatten ++ (xV x).cells) :: (Γ0 ++ (OF ++ EF))) ++ [Fct.blk g1 28 (xV x).cells]) w4 := H4
      have e5 : ((allX (rs.take i) ++ r.exts.take (k + 1)).map fun x => (xV x).cells).flatten = ((allX (rs.take i) ++ r.exts.take k).map fun x => (xV x).cells).flatten ++ (xV x).cells := by rw [take_snocA hx, ← List.append_assoc, List.map_append, List.flatten_append]; simp
      rw [e5]
      exact H4.dropEnd
    · have hkn : k = r.exts.length := by omega
      have e5 : allX (rs.take (i + 1)) = allX (rs.take i) ++ r.exts.take k := by
        rw [take_snocA hr, List.take_of_length_le (l := r.exts) (by omega)]
        unfold allX
        rw [List.flatMap_append]; simp
      refine ⟨⟨i + 1, e1, by omega, ?_, ?_⟩, by simp only [e1]; omega⟩
      · show n2 = _
        rw [e5, List.length_append, List.length_take]; omega
      · rw [e5]; exact H
  have hin : i = s.n := by omega
  rw [List.take_of_length_le (by omega)] at hn1 H
  have hxfine : ∀ x ∈ allX rs, x.v.opts.n ≤ 4000000 := fun x hx => by
    obtain ⟨r, hr, hx⟩ := List.mem_flatMap.1 hx
    exact ((hX r hr).opts x hx).small
  /- the lists of options -/
  obtain ⟨ΓA, hΓA⟩ : ∃ ΓA, ΓA = Γ0 ++ (Fct.own b 28 43 (.slice A1 n1 q1) n1 ((allX rs).map fun x => (xV x).cells).flatten :: EF) := ⟨_, rfl⟩
  have H : Sep (ΓA ++ (((allX rs).map fun x => grO x.v.opts x.opts).map (rawR b 100 2))) w1 := by
    have e : ((allX rs).map fun x => grO x.v.opts x.opts).map (rawR b 100 2) = OF := by rw [hOF, List.map_map]; rfl
    rw [e, hΓA]
    refine H.perm ?_
    have p : (Γ0 ++ (Fct.own b 28 43 (.slice A1 n1 q1) n1 ((allX rs).map fun x => (xV x).cells).flatten :: (EF ++ OF))).Perm (Fct.own b 28 43 (.slice A1 n1 q1) n1 ((allX rs).map fun x => (xV x).cells).flatten :: (Γ0 ++ (OF ++ EF))) :=
      List.perm_middle.trans (.cons _ (List.perm_append_comm.append_left Γ0))
    rw [List.append_assoc]
    exact p
  have hA0 : ΓA[0]? = some (Fct.rest w0 None) := by rw [hΓA, List.getElem?_append_left (List.getElem?_eq_some_iff.1 h0).1]; exact h0
  have hlA : ∀ w', (∀ f ∈ ΓA, f.φ w') → ∀ (j : Nat) (r : GR) (F : Addr → Prop), ((allX rs).map fun x => grO x.v.opts x.opts)[j]? = some r → (∀ a, w'.cell? (a.add 41) = some (.slice r.A r.n r.c) → F a) → IdxVC A1 n1 43 (j : Int) F := by
    intro w' hf j r F hj hF
    rw [List.getElem?_map] at hj
    cases hx : (allX rs)[j]? with
    | none => rw [hx] at hj; cases hj
    | some x =>
      rw [hx] at hj
      injection hj with hj
      subst hj
      have ho : w'.ownsRow b 28 43 (.slice A1 n1 q1) n1 ((allX rs).map fun x => (xV x).cells).flatten := hf (Fct.own b 28 43 (.slice A1 n1 q1) n1 ((allX rs).map fun x => (xV x).cells).flatten) (by rw [hΓA]; exact List.mem_append_right _ List.mem_cons_self)
      have hrec : Recs w' A1 43 ((allX rs).map fun x => (xV x).cells) := Recs.of_cells (by decide) (fun r hr => by obtain ⟨y, _, rfl⟩ := List.mem_map.1 hr; rfl) (own_cells ho)
      exact IdxVC.recD (w := w') (fun w3 => w3 = w') rfl (fun w3 e => by rw [e]; exact hrec) (by rw [List.length_map]; exact hn1.symm) (cs := (xV x).cells) (by rw [List.getElem?_map, hx]; rfl) fun a ha => hF a (cells_get (ha w' rfl) 41 rfl)
  refine (own4_lists H hA0 hb hlA (by rw [List.length_map]; exact hn1.symm) (by omega) (fun r hr => ?_)).mono ?_
  · obtain ⟨x, hx, rfl⟩ := List.mem_map.1 hr
    exact hxfine x hx
  rintro _ w5 ⟨rfl, Δ, H⟩
  refine ⟨_, rfl, ?_⟩
  obtain ⟨ΓB, hΓB⟩ : ∃ ΓB, ΓB = Γ0 ++ (Fct.own b 28 43 (.slice A1 n1 q1) n1 ((allX rs).map fun x => (xV x).cells).flatten :: Δ) := ⟨_, rfl⟩
  have H : Sep (ΓB ++ ((rs.map fun r => grE r.v.exts r.exts).map (rawR b 81 3))) w5 := by
    have e : (rs.map fun r => grE r.v.exts r.exts).map (rawR b 81 3) = EF := by rw [hEF, List.map_map]; rfl
    rw [e, hΓB]
    rw [hΓA] at H
    refine H.perm ?_
    rw [List.append_assoc, List.append_assoc]
    refine List.Perm.append_left Γ0 ?_
    exact .cons _ List.perm_append_comm
  have hB0 : ΓB[0]? = some (Fct.rest w0 None) := by rw [hΓB, List.getElem?_append_left (List.getElem?_eq_some_iff.1 h0).1]; exact h0
  have hlB : ∀ w', (∀ f ∈ ΓB, f.φ w') → ∀ (j : Nat) (r : GR) (F : Addr → Prop), (rs.map fun r => grE r.v.exts r.exts)[j]? = some r → (∀ a, w'.cell? (a.add 37) = some (.slice r.A r.n r.c) → F a) → IdxVC s.A s.n 44 (j : Int) F := by
    intro w' hf j r F hj hF
    rw [List.getElem?_map] at hj
    cases hx : rs[j]? with
    | none => rw [hx] at hj; cases hj
    | some x =>
      rw [hx] at hj
      injection hj with hj
      subst hj
      exact rd (fun f hf' => hf f (by rw [hΓB]; exact List.mem_append_left _ hf')) hx fun a ha => hF a (cells_get ha 37 rfl)
  exact own6_lists (x := true) (w0 := w0) H hB0 hb hlB (by rw [List.length_map]; exact hlen) (by omega) (fun r hr => by
    obtain ⟨x, hx, rfl⟩ := List.mem_map.1 hr
    exact (hX x hx).small) fun w' Δ' H' => ⟨rfl, _, by rw [hΓB, List.append_assoc] at H'; exact H'⟩
end
end N6
end Go.Proofs.YteppichfkeknbaaGreatDoor
/- SplitOwn: every list is its own. -/
namespace Go.Eng
open Go Go.RowKit
theorem rows4_small {rs : List Ip4R} {B : Nat} (h : ∀ r ∈ rs, r.v.data.n ≤ B ∧ ∀ o ∈ r.opts, o.v.data.n ≤ B) : ∀ x ∈ rows4 rs, x.n ≤ B := by
  intro x hx
  obtain ⟨r, hr, hx⟩ := List.mem_flatMap.1 hx
  rcases List.mem_cons.1 hx with rfl | hx
  · exact (h r hr).1
  · obtain ⟨o, ho, rfl⟩ := List.mem_map.1 hx
    exact (h r hr).2 o ho
theorem rows6_small {rs : List Ip6R} {B : Nat} (h : ∀ r ∈ rs, r.v.data.n ≤ B ∧ ∀ x ∈ r.exts, x.v.data.n ≤ B ∧ ∀ o ∈ x.opts, o.v.data.n ≤ B) : ∀ x ∈ rows6 rs, x.n ≤ B := by
  intro x hx
  obtain ⟨r, hr, hx⟩ := List.mem_flatMap.1 hx
  rcases List.mem_cons.1 hx with rfl | hx
  · exact (h r hr).1
  · obtain ⟨e, he, hx⟩ := List.mem_flatMap.1 hx
    rcases List.mem_cons.1 hx with rfl | hx
    · exact ((h r hr).2 e he).1
    · obtain ⟨o, ho, rfl⟩ := List.mem_map.1 hx
      exact ((h r hr).2 e he).2 o ho
end Go.Eng
namespace Go.Proofs.YteppichfkeknbaaGreatDoor
namespace N6
open Go.Eng Go.RowKit
section
variable {w : World}
theorem ip4Fs_less {b b' : Nat} {s : Sl} {rs : List Ip4R} (h : b' ≤ b) : AllLe (ip4Fs b s rs) (ip4Fs b' s rs) :=
  .cons (own_less h).1 (own_less h).2 ((AllLe.map rs fun _ _ => own_less h).append (AllLe.flatMap rs fun _ _ => optFs_less h))
theorem ip6Fs_less {b b' : Nat} {s : Sl} {rs : List Ip6R} (h : b' ≤ b) : AllLe (ip6Fs b s rs) (ip6Fs b' s rs) :=
  .cons (own_less h).1 (own_less h).2 ((AllLe.map rs fun _ _ => own_less h).append (AllLe.flatMap rs fun _ _ => extFs_less h))
/-- Pieces join the parts. -/
theorem Cut4.more {Γ : List Fct} {b : Nat} {w' : World} {r : List Ip4D × Int} {e : Ending} (H : Sep Γ w) (hb : b ≤ w.heap.size) (h : Cut4 w r e w') : ∃ (s' : Sl) (rs : List Ip4R), e = .returned (.tuple #[s'.val, .int .i64 r.2]) ∧ rs.map Ip4R.d = r.1 ∧ Ip4sFine s' rs ∧ Sep (Γ ++ ip4Fs b s' rs) w' := by
  obtain ⟨s', rs, he, hr, hf, H'⟩ := h
  exact ⟨s', rs, he, hr, hf, H.mades ((AllLe.append (AllLe.refl [Fct.rest w None]) (ip4Fs_less hb)).sep H')⟩
theorem Cut6.more {Γ : List Fct} {b : Nat} {w' : World} {r : List Ip6D × Int} {e : Ending} (H : Sep Γ w) (hb : b ≤ w.heap.size) (h : Cut6 w r e w') : ∃ (s' : Sl) (rs : List Ip6R), e = .returned (.tuple #[s'.val, .int .i64 r.2]) ∧ rs.map Ip6R.d = r.1 ∧ Ip6sFine s' rs ∧ Sep (Γ ++ ip6Fs b s' rs) w' := by
  obtain ⟨s', rs, he, hr, hf, H'⟩ := h
  exact ⟨s', rs, he, hr, hf, H.mades ((AllLe.append (AllLe.refl [Fct.rest w None]) (ip6Fs_less hb)).sep H')⟩
theorem four_few {s : Sl} {rs : List Ip4R} {d : Ip4D} {mtu : Int} (hf : Ip4sFine s rs) (h : rs.map Ip4R.d = (split4S d mtu).1) : rs.length ≤ 8193 ∧ (rows4 rs).length ≤ 8193 * 4000001 ∧ ∀ x ∈ rows4 rs, x.n ≤ 4000000 := by
  have h1 : rs.length ≤ 8193 := by
    have := split4_few d mtu
    rw [← h, List.length_map] at this; exact this
  refine ⟨h1, ?_, rows4_small fun r hr => ⟨(hf.each r hr).data.1, fun o ho => ((hf.each r hr).opts.each o ho).1⟩⟩
  obtain ⟨B, hB⟩ : ∃ B : Nat, B = 4000000 := ⟨_, rfl⟩
  have h3 := sum_le4 (B := B) rs fun r hr => by have := (hf.each r hr).opts.len; have := (hf.each r hr).opts.small; omega
  have h2 : rs.length * (1 + B) ≤ 8193 * (1 + B) := Nat.mul_le_mul_right _ h1
  omega
theorem allX_len : ∀ rs : List Ip6R, (∀ r ∈ rs, r.exts.length ≤ 8) → (allX rs).length ≤ rs.length * 8
  | [], _ => by simp [allX]
  | r :: rs, h => by
    have h1 := allX_len rs fun x hx => h x (by simp [hx])
    have h2 := h r (by simp)
    have e : allX (r :: rs) = r.exts ++ allX rs := rfl
    rw [e, List.length_append, List.length_cons]
    omega
theorem six_few {s : Sl} {rs : List Ip6R} {d : Ip6D} {mtu id : Int} (hf : Ip6sFine s rs) (h : rs.map Ip6R.d = (split6S d mtu id).1) : rs.length ≤ 8193 ∧ (rows6 rs).length ≤ 8193 * 32000009 ∧ (∀ x ∈ rows6 rs, x.n ≤ 4000000) ∧ (allX rs).length ≤ 65544 := by
  obtain ⟨h1, h8⟩ := split6_few d mtu id
  rw [← h] at h1 h8
  rw [List.length_map] at h1
  have hx : ∀ r ∈ rs, r.exts.length ≤ 8 := fun r hr => by
    have := h8 _ (List.mem_map_of_mem hr)
    have e : (Ip6R.d r).exts.length = r.exts.length := by simp [Ip6R.d, Ip6V.d]
    omega
  refine ⟨h1, ?_, rows6_small fun r hr => ⟨(hf.each r hr).data.1, fun x hx => ⟨((hf.each r hr).exts.data x hx).1, fun o ho => (((hf.each r hr).exts.opts x hx).each o ho).1⟩⟩, ?_⟩
  · obtain ⟨B, hB⟩ : ∃ B : Nat, B = 4000000 := ⟨_, rfl⟩
    have h3 := sum_le6 (B := B) rs fun r hr => ⟨hx r hr, fun x hx => by have := ((hf.each r hr).exts.opts x hx).len; have := ((hf.each r hr).exts.opts x hx).small; omega⟩
    have h2 : rs.length * (1 + 8 * (1 + B)) ≤ 8193 * (1 + 8 * (1 + B)) := Nat.mul_le_mul_right _ h1
    omega
  · have := allX_len rs hx
    omega
end
end N6
end Go.Proofs.YteppichfkeknbaaGreatDoor
