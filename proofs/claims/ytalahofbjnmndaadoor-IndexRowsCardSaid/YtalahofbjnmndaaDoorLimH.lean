/- The E machine: soundness of operations, part 5: aggregates and slices built. -/
import Derived.Test.YtalahofbjnmndaaDoorLimG
set_option linter.unusedVariables false
set_option linter.unusedSimpArgs false
namespace Go.Lim
open Go.RowKit
variable {P : Program} {m : Em} {H : Heap} {w : World}

theorem fold_set (off : Nat) : ∀ (l : List Value) (s : Nat) (cs : Array Value), off + s + l.length ≤ cs.size →
    ((l.zipIdx s).foldl (fun cs (c, j) => cs.setIfInBounds (off + j) c) cs).toList = cs.toList.take (off + s) ++ (l ++ cs.toList.drop (off + s + l.length))
  | [], s, cs, h => by simp
  | v :: l, s, cs, h => by
    simp only [List.zipIdx_cons, List.foldl_cons]
    have hs : off + s < cs.toList.length := by simp at h; simp; omega
    rw [fold_set off l (s + 1) (cs.setIfInBounds (off + s) v) (by simp at h ⊢; omega)]
    simp only [Array.toList_setIfInBounds, List.length_cons]
    rw [show off + (s + 1) = off + s + 1 by omega, List.take_set, List.drop_set, if_pos (by omega)]
    rw [List.take_succ_eq_append_getElem hs, List.set_append, if_neg (by simp; omega)]
    have hl : (List.take (off + s) cs.toList).length = off + s := by simp; omega
    rw [hl, Nat.sub_self]
    simp only [List.set_cons_zero, List.append_assoc, List.cons_append, List.nil_append]
    rw [show off + s + 1 + l.length = off + s + (l.length + 1) by omega]

theorem wrc_some {cs vs ds : List AV} {off : Nat} (h : wrc cs off vs = some ds) : off + vs.length ≤ cs.length ∧ ds = cs.take off ++ (vs ++ cs.drop (off + vs.length)) := by
  unfold wrc at h
  split at h <;> simp at h
  exact ⟨by assumption, h.symm⟩

/-- Parts and their places. -/
def PartsR (m : Em) (w : World) (place : Nat → Option (Nat × Nat)) : List (Nat × AV) → List (Nat × Value) → Prop
  | [], [] => True
  | (off, v) :: ps, (i, r) :: rs => place i = some (off, v.cells.length) ∧ VR m w v r ∧ PartsR m w place ps rs
  | _, _ => False

theorem fill_sound {place : Nat → Option (Nat × Nat)} : ∀ (ps : List (Nat × AV)) (rps : List (Nat × Value)) (cs ds : List AV) (rs : Array Value), PartsR m w place ps rps → VRL m w cs rs.toList →
    fillE cs ps = some ds → ∃ ss, Instr.fill place rs rps = some ss ∧ VRL m w ds ss.toList
  | [], rps, cs, ds, rs, hp, hv, h => by
    cases rps with
    | nil => simp [fillE] at h; subst h; exact ⟨rs, by simp [Instr.fill], hv⟩
    | cons x y => simp [PartsR] at hp
  | (off, v) :: ps, rps, cs, ds, rs, hp, hv, h => by
    cases rps with
    | nil => simp [PartsR] at hp
    | cons x rps =>
      obtain ⟨i, r⟩ := x
      obtain ⟨h1, h2, h3⟩ := hp
      simp only [fillE, Option.bind_eq_some_iff] at h
      obtain ⟨cs', h4, h5⟩ := h
      obtain ⟨h6, h7⟩ := wrc_some h4
      have hc := h2.cells
      have hlen : r.cells.size = v.cells.length := by have := hc.1; simpa using this.symm
      have hrs : rs.size = cs.length := by have := hv.1; simpa using this.symm
      have key := fold_set off r.cells.toList 0 rs (by simp; omega)
      have hnew : VRL m w cs' ((r.cells.zipIdx.foldl (fun cs (c, j) => cs.setIfInBounds (off + j) c) rs)).toList := by
        have e : (r.cells.zipIdx.foldl (fun cs (x : Value × Nat) => cs.setIfInBounds (off + x.2) x.1) rs) = ((r.cells.toList.zipIdx 0).foldl (fun cs (x : Value × Nat) => cs.setIfInBounds (off + x.2) x.1) rs) := by
          rw [← Array.foldl_toList]; simp
        rw [show (fun (cs : Array Value) (x : Value × Nat) => match x with | (c, j) => cs.setIfInBounds (off + j) c) = (fun cs (x : Value × Nat) => cs.setIfInBounds (off + x.2) x.1) from rfl] at *
        rw [e]
        rw [key, h7]
        simp only [Nat.add_zero, Array.length_toList, hlen]
        exact (hv.take off).append (hc.append (hv.drop _))
      obtain ⟨ss, h8, h9⟩ := fill_sound ps rps cs' ds _ h3 hnew h5
      refine ⟨ss, ?_, h9⟩
      simp only [Instr.fill, h1]
      rw [if_neg]
      · exact h8
      · simp only [bne_iff_ne, ne_eq, Bool.or_eq_true, decide_eq_true_eq, not_or, Decidable.not_not, hlen]
        simp; omega

/-- Where a part of an aggregate lies, and its cells. -/
def placeT (P : Program) (t : TypeId) (i : Nat) : Option (Nat × Nat) :=
  match P.underlying t with
  | some (.struct fs) => match fs[i]? with
    | some f => (P.info? f.type).map fun q => (f.offset, q.size)
    | none => none
  | some (.array _ e) => (P.info? e).map fun q => (i * q.size, q.size)
  | _ => none
def placesOK (P : Program) (t : TypeId) : Bool :=
  match P.underlying t with
  | some (.struct fs) => fs.toList.all fun f => (P.info? f.type).isSome
  | some (.array _ e) => (P.info? e).isSome
  | _ => false
def chkParts (P : Program) (t : TypeId) : List (Nat × Operand) → List (Nat × Nat × EX) → Bool
  | [], [] => true
  | (i, x) :: r, (off, sz, y) :: s => (match placeT P t i with | some (a, b) => decide (a = off) && decide (b = sz) | none => false) && chkX x y && chkParts P t r s
  | _, _ => false

theorem parts_sound {cx : Cx} {e : Env} {ρ : Operand → Value} {t : TypeId} (hX : XR cx m w e ρ) : ∀ (rs : List (Nat × Operand)) (ps : List (Nat × Nat × EX)) (vs : List (Nat × AV)),
    chkParts P t rs ps = true → evparts cx e ps = some vs → PartsR m w (placeT P t) vs (rs.map fun (i, x) => (i, ρ x))
  | [], [], vs, _, h => by simp [evparts] at h; subst h; trivial
  | [], _ :: _, vs, h, _ => by simp [chkParts] at h
  | _ :: _, [], vs, h, _ => by simp [chkParts] at h
  | (i, x) :: r, (off, sz, y) :: s, vs, hc, h => by
    simp only [chkParts, Bool.and_eq_true] at hc
    obtain ⟨⟨h1, h2⟩, h3⟩ := hc
    simp only [evparts, Option.bind_eq_some_iff] at h
    obtain ⟨v, h4, h5⟩ := h
    split at h5 <;> try (simp at h5; done)
    rename_i hsz
    simp only [Option.bind_eq_some_iff] at h5
    obtain ⟨vs', h6, h7⟩ := h5
    simp at h7; subst h7
    split at h1 <;> simp at h1
    rename_i a b hp
    obtain ⟨rfl, rfl⟩ := h1
    exact ⟨by rw [hp, hsz], hX x y v h2 h4, parts_sound hX r s vs' h3 h6⟩

theorem mapM_places : ∀ (fs : List Field), fs.all (fun f => (P.info? f.type).isSome) = true →
    fs.mapM (fun f => (P.info? f.type).map fun i => (f.offset, i.size)) = some (fs.map fun f => (f.offset, ((P.info? f.type).map (·.size)).getD 0))
  | [], _ => rfl
  | f :: fs, h => by
    simp only [List.all_cons, Bool.and_eq_true] at h
    cases hi : P.info? f.type with
    | none => simp [hi] at h
    | some i =>
      have ih := mapM_places fs h.2
      simp [List.mapM_cons, hi, ih]

theorem buildE_sound {T : TypeId} {zero : List AV} {ps : List (Nat × AV)} {rps : Array (Nat × Value)} {cs : List AV} (hw : WRel m H w) (hz : zeroIs P T (.agg zero) = true) (hok : placesOK P T = true)
    (hp : PartsR m w (placeT P T) ps rps.toList) (h : fillE zero ps = some cs) : Fits P m H w (Instr.build T rps) (.agg cs) := by
  obtain ⟨iz, z, hi, hz1, hz2⟩ := zeroIs_some hz
  cases z <;> try (simp [chkV] at hz2; done)
  rename_i zc
  simp only [chkV] at hz2
  have hzv := chkVL_sound (m := m) (w := w) _ _ hz2
  obtain ⟨ss, h1, h2⟩ := fill_sound ps rps.toList zero cs zc hp hzv h
  have hv : VR m w (.agg cs) (.agg ss) := by have := VR.agg cs ss.toList h2.1 h2.2; simpa using this
  refine .same hw (run_build (P := P) w T rps ss ?_) hv
  unfold placesOK at hok
  split at hok
  · rename_i fs hu
    have hm := mapM_places (P := P) fs.toList hok
    simp only [Program.built, hi, hu, hz1, hm, Value.cells]
    rw [← h1]
    congr 1
    funext i
    simp only [placeT, hu, List.getElem?_toArray, List.getElem?_map, Array.getElem?_toList]
    cases hf : fs[i]? with
    | none => simp
    | some f =>
      have : (P.info? f.type).isSome = true := List.all_eq_true.1 hok f (by simpa using Array.mem_of_getElem? hf)
      cases hq : P.info? f.type with
      | none => simp [hq] at this
      | some q => simp [hq]
  · rename_i n e hu
    cases hq : P.info? e with
    | none => simp [hq] at hok
    | some q =>
      simp only [Program.built, hi, hu, hz1, hq, Value.cells]
      rw [← h1]
      congr 1
      funext i
      simp [placeT, hu, hq]
  · simp at hok

/-! ### slices' literals -/
def chkElems : List (Nat × Operand) → List (Nat × EX) → Bool
  | [], [] => true
  | (i, x) :: r, (j, y) :: s => decide (i = j) && chkX x y && chkElems r s
  | _, _ => false

theorem flat_replicate (n : Nat) (z : AV) : (AV.flat (List.replicate n z)).length = n * z.cells.length := by
  induction n with
  | zero => simp [AV.flat]
  | succ n ih => simp only [List.replicate_succ, AV.flat, List.length_append, ih]; rw [Nat.add_mul]; omega

theorem flat_set {es : List AV} {sz : Nat} (hs : ∀ e ∈ es, e.cells.length = sz) {v : AV} (hv : v.cells.length = sz) : ∀ (i : Nat), i < es.length →
    wrc (AV.flat es) (i * sz) v.cells = some (AV.flat (es.set i v)) := by
  induction es with
  | nil => intro i h; simp at h
  | cons x r ih =>
    intro i h
    have hx := hs x (by simp)
    have hle := flat_length (fun e he => hs e (by simp [he]) : ∀ e ∈ r, e.cells.length = sz)
    cases i with
    | zero =>
      simp only [List.set_cons_zero, AV.flat, wrc, Nat.zero_mul, Nat.zero_add, List.length_append]
      rw [if_pos (by omega)]
      simp only [List.take_zero, List.nil_append]
      rw [hv, ← hx, List.drop_left]
    | succ i =>
      have := ih (fun e he => hs e (by simp [he])) i (by simpa using h)
      obtain ⟨h1, h2⟩ := wrc_some this
      simp only [List.set_cons_succ, AV.flat, wrc, List.length_append]
      rw [if_pos (by rw [Nat.add_mul]; omega), h2]
      rw [show (i + 1) * sz = x.cells.length + i * sz by rw [Nat.add_mul, hx]; omega, List.take_append, List.drop_append, List.take_of_length_le (by omega)]
      congr 1
      rw [List.drop_of_length_le (by omega : x.cells.length ≤ x.cells.length + i * sz + v.cells.length)]
      simp only [List.append_assoc, List.nil_append]
      rw [show x.cells.length + i * sz - x.cells.length = i * sz by omega, show x.cells.length + i * sz + v.cells.length - x.cells.length = i * sz + v.cells.length by omega]

theorem setAll_fill {sz : Nat} : ∀ (ps : List (Nat × AV)) (es fs : List AV), (∀ e ∈ es, e.cells.length = sz) → (∀ p ∈ ps, p.2.cells.length = sz) → setAll es ps = some fs →
    fillE (AV.flat es) (ps.map fun p => (p.1 * sz, p.2)) = some (AV.flat fs) ∧ (∀ e ∈ fs, e.cells.length = sz) ∧ fs.length = es.length
  | [], es, fs, hs, hp, h => by simp [setAll] at h; subst h; simp [fillE]; exact hs
  | (i, v) :: ps, es, fs, hs, hp, h => by
    simp only [setAll] at h
    split at h <;> try (simp at h; done)
    rename_i hi
    have hv : v.cells.length = sz := hp (i, v) (by simp)
    have hs' : ∀ e ∈ es.set i v, e.cells.length = sz := fun e he => by
      rcases List.mem_or_eq_of_mem_set he with h1 | rfl
      · exact hs e h1
      · exact hv
    obtain ⟨h1, h2, h3⟩ := setAll_fill ps (es.set i v) fs hs' (fun p hp' => hp p (by simp [hp'])) h
    refine ⟨?_, h2, by simpa using h3⟩
    simp only [List.map_cons, fillE, flat_set hs hv i hi, Option.bind_some, h1]

theorem setAll_mem : ∀ (ps : List (Nat × AV)) (es fs : List AV), setAll es ps = some fs → True := fun _ _ _ _ => trivial

theorem elems_sound {cx : Cx} {e : Env} {ρ : Operand → Value} {sz : Nat} (hX : XR cx m w e ρ) : ∀ (rs : List (Nat × Operand)) (ps : List (Nat × EX)) (vs : List (Nat × AV)),
    chkElems rs ps = true → evelems cx e ps = some vs → (∀ p ∈ vs, p.2.cells.length = sz) → PartsR m w (fun i => some (i * sz, sz)) (vs.map fun p => (p.1 * sz, p.2)) (rs.map fun (i, x) => (i, ρ x))
  | [], [], vs, _, h, _ => by simp [evelems] at h; subst h; trivial
  | [], _ :: _, vs, h, _, _ => by simp [chkElems] at h
  | _ :: _, [], vs, h, _, _ => by simp [chkElems] at h
  | (i, x) :: r, (j, y) :: s, vs, hc, h, hl => by
    simp only [chkElems, Bool.and_eq_true, decide_eq_true_eq] at hc
    obtain ⟨⟨rfl, h2⟩, h3⟩ := hc
    simp only [evelems, Option.bind_eq_some_iff] at h
    obtain ⟨v, h4, vs', h6, h7⟩ := h
    simp at h7; subst h7
    have hv := hl (i, v) (by simp)
    exact ⟨by simp only [hv], hX x y v h2 h4, elems_sound hX r s vs' h3 h6 (fun p hp => hl p (by simp [hp]))⟩

theorem zeros_flat {m : Em} {w : World} {z : AV} {rz : Array Value} (hz : VRL m w z.cells rz.toList) (n : Nat) :
    VRL m w (AV.flat (List.replicate n z)) ((Array.range (n * rz.size)).map (rz[· % rz.size]!)).toList := by
  have hsz : rz.size = z.cells.length := by have := hz.1; simpa using this.symm
  refine ⟨by rw [flat_replicate]; simp [hsz], fun j v r h1 h2 => ?_⟩
  have hj : j < n * rz.size := by have := (List.getElem?_eq_some_iff.1 h1).1; rw [flat_replicate] at this; rwa [hsz]
  have hpos : 0 < rz.size := by rcases Nat.eq_zero_or_pos rz.size with h | h; · rw [h] at hj; simp at hj
                                · exact h
  simp only [Array.toList_map, Array.toList_range, List.getElem?_map, List.getElem?_range hj, Option.map_some, Option.some.injEq] at h2
  have hm : j % rz.size < rz.size := Nat.mod_lt _ hpos
  rw [getElem!_pos rz (j % rz.size) hm] at h2
  have hd : j / rz.size < n := Nat.div_lt_of_lt_mul (by rw [Nat.mul_comm]; exact hj)
  have he : (List.replicate n z)[j / rz.size]? = some z := by simp [hd]
  have hf := flat_getElem (sz := rz.size) (es := List.replicate n z) (fun e he => by rw [List.eq_of_mem_replicate he, hsz]) (j / rz.size) z he (j % rz.size) hm
  rw [show j / rz.size * rz.size + j % rz.size = j by rw [Nat.mul_comm]; exact Nat.div_add_mod j rz.size] at hf
  rw [hf] at h1
  exact hz.2 _ v r h1 (by rw [← h2]; simp [hm])

end Go.Lim
