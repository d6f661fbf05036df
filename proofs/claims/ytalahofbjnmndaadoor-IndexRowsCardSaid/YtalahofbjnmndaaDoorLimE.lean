/- The E machine: soundness of operations, part 2: strings, slices, equality, maps read, aggregates built. -/
import Derived.Test.YtalahofbjnmndaaDoorLimD
import Derived.Laws.StructEq
set_option linter.unusedVariables false
set_option linter.unusedSimpArgs false
namespace Go.Lim
open Go.RowKit
variable {P : Program} {m : Em} {H : Heap} {w : World}

def lenT (P : Program) (T : TypeId) : LK → Bool
  | .s => match P.underlying T with | some .string => true | _ => false
  | .l => match P.underlying T with | some (.slice _) => true | _ => false
  | .m => match P.underlying T with | some (.map _ _) => true | _ => false

theorem lenE_sound {T ty : TypeId} {k : LK} {a v : AV} {ra : Value} (hw : WRel m H w) (ha : VR m w a ra) (hT : lenT P T k = true) (h : lenE H k a = some v) :
    Fits P m H w (Builtin.len_ #[T] ty #[ra]) v := by
  unfold lenT at hT
  cases k with
  | s =>
    simp only at hT
    split at hT <;> simp at hT
    rename_i hu
    cases ha <;> simp [lenE] at h
    subst h
    exact .same hw (by simp [Builtin.len_, run_underlying hu]; rfl) (.int _ _)
  | l =>
    simp only at hT
    split at hT <;> simp at hT
    rename_i e hu
    cases ha <;> simp [lenE] at h <;> subst h <;> exact .same hw (by simp [Builtin.len_, run_underlying hu]; rfl) (.int _ _)
  | m =>
    simp only at hT
    split at hT <;> simp at hT
    rename_i kk e hu
    cases ha <;> simp only [lenE] at h <;> try (simp at h; done)
    · rename_i id blk hb
      split at h
      · rename_i es hH
        simp at h; subst h
        obtain ⟨_, ⟨ms, ck, hm, hk, hvv⟩, _⟩ : ObjR m w (.mp es) (.obj blk) := hw.obj id _ _ hH hb
        have hsz : ms.size = es.length := by have := hk.1; simpa using this.symm
        exact .same hw (by simp [Builtin.len_, run_underlying hu, getObj, Sem.run, hm, hsz]; rfl) (.int _ _)
      · simp at h
    · simp at h; subst h
      exact .same hw (by simp [Builtin.len_, run_underlying hu]; rfl) (.int _ _)

theorem mx2_sound {mn : Bool} {a b v : AV} {ra rb : Value} (ha : VR m w a ra) (hb : VR m w b rb) (h : mx2 mn a b = some v) :
    ∃ r, (if mn then Builtin.min2 ra rb else Builtin.max2 ra rb).run P w = .ok r w ∧ VR m w v r := by
  cases ha with
  | int k a =>
    cases hb with
    | int l b =>
      simp only [mx2] at h
      split at h <;> simp at h
      rename_i hkl; subst hkl; subst h
      cases mn
      · exact ⟨.int k (if b > a then b else a), by simp [Builtin.max2], by simpa using .int _ _⟩
      · exact ⟨.int k (if b < a then b else a), by simp [Builtin.min2], by simpa using .int _ _⟩
    | _ => simp [mx2] at h
  | _ => simp [mx2] at h

theorem mxE_sound {mn : Bool} : ∀ (bs : List AV) (rbs : List Value) (a v : AV) (ra : Value), VR m w a ra → VRL m w bs rbs → mxE mn a bs = some v →
    ∃ r, (rbs.foldlM (if mn then Builtin.min2 else Builtin.max2) ra).run P w = .ok r w ∧ VR m w v r
  | [], rbs, a, v, ra, ha, hl, h => by
    have : rbs = [] := List.eq_nil_of_length_eq_zero hl.1.symm
    subst this
    simp [mxE] at h; subst h
    exact ⟨ra, by simp, ha⟩
  | b :: bs, rbs, a, v, ra, ha, hl, h => by
    cases rbs with
    | nil => have := hl.1; simp at this
    | cons rb rbs =>
      simp only [mxE, Option.bind_eq_some_iff] at h
      obtain ⟨c, h1, h2⟩ := h
      obtain ⟨r, h3, h4⟩ := mx2_sound (P := P) ha (hl.2 0 b rb rfl rfl) h1
      obtain ⟨r', h5, h6⟩ := mxE_sound bs rbs c v r h4 ⟨by simpa using hl.1, fun j x y hx hy => hl.2 (j + 1) x y (by simpa using hx) (by simpa using hy)⟩ h2
      refine ⟨r', ?_, h6⟩
      cases mn <;> simp at h3 h5 ⊢ <;> simp [h3, h5]

theorem mxsE_sound {mn : Bool} {ts : Array TypeId} {ty : TypeId} {vs : List AV} {rs : List Value} {v : AV} (hw : WRel m H w) (hl : VRL m w vs rs) (h : mxsE mn vs = some v) :
    Fits P m H w (if mn then Builtin.min_ ts ty rs.toArray else Builtin.max_ ts ty rs.toArray) v := by
  cases vs with
  | nil => simp [mxsE] at h
  | cons a vs =>
    cases rs with
    | nil => have := hl.1; simp at this
    | cons ra rs =>
      obtain ⟨r, h1, h2⟩ := mxE_sound (P := P) vs rs a v ra (hl.2 0 a ra rfl rfl) ⟨by simpa using hl.1, fun j x y hx hy => hl.2 (j + 1) x y (by simpa using hx) (by simpa using hy)⟩ h
      refine .same hw ?_ h2
      cases mn <;> simp [Builtin.min_, Builtin.max_] at h1 ⊢ <;> exact h1

theorem cpxmkE_sound {ts : Array TypeId} {ty : TypeId} {a b v : AV} {ra rb : Value} (hw : WRel m H w) (ha : VR m w a ra) (hb : VR m w b rb) (h : cpxmkE a b = some v) : Fits P m H w (Builtin.complex_ ts ty #[ra, rb]) v := by
  cases ha with
  | flt k a x hx =>
    cases hb with
    | flt l b y hy =>
      simp only [cpxmkE] at h
      split at h <;> simp at h
      rename_i hkl; subst hkl; subst h
      exact .same hw (by cases k <;> rfl) (.cpx _ _ _ _ _ hx hy)
    | _ => simp [cpxmkE] at h
  | _ => simp [cpxmkE] at h

theorem cpxreE_sound {im : Bool} {ts : Array TypeId} {ty : TypeId} {a v : AV} {ra : Value} (hw : WRel m H w) (ha : VR m w a ra) (h : cpxreE im a = some v) :
    Fits P m H w (if im then Builtin.imag_ ts ty #[ra] else Builtin.real_ ts ty #[ra]) v := by
  cases ha with
  | cpx k a b c d hx hy =>
    simp [cpxreE] at h; subst h
    cases im
    · exact .same hw (by rfl) (.flt _ _ _ hx)
    · exact .same hw (by rfl) (.flt _ _ _ hy)
  | _ => simp [cpxreE] at h

theorem bnd_run {x : Option AV} {rx : Option Value} {d most n : Nat} {code : BoundsCode} (hx : match x, rx with | none, none => True | some a, some r => VR m w a r | _, _ => False)
    (h : bnd x d most = some n) : (match rx with | none => n = d | some r => (Instr.sliceBound r most code).run P w = .ok n w) := by
  cases x with
  | none => cases rx with
    | none => simp [bnd] at h; exact h.symm
    | some r => exact hx.elim
  | some a => cases rx with
    | none => exact hx.elim
    | some r =>
      cases hx with
      | int k i =>
        simp only [bnd] at h
        split at h <;> simp at h
        rename_i hh; subst h
        exact run_sliceBound w k i most code hh.1 hh.2
      | _ => simp [bnd] at h

def OptR (m : Em) (w : World) (x : Option AV) (rx : Option Value) : Prop := match x, rx with | none, none => True | some a, some r => VR m w a r | _, _ => False

theorem bounds_run {isS : Bool} {lo hi : Option AV} {rlo rhi : Option Value} {len cap h l : Nat} (hl : OptR m w lo rlo) (hh : OptR m w hi rhi) (hle : len ≤ cap)
    (h1 : bnd hi len len = some h) (h2 : bnd lo 0 h = some l) : (Instr.sliceBounds isS len cap rlo rhi none).run P w = .ok (l, h, cap) w ∧ l ≤ h ∧ h ≤ len := by
  have e2 := bnd_run (P := P) (code := .sliceB) hl h2
  have hlh : l ≤ h := by
    unfold bnd at h2
    split at h2
    · simp at h2; omega
    · split at h2 <;> simp at h2; omega
    · simp at h2
  have hhl : h ≤ len := by
    unfold bnd at h1
    split at h1
    · simp at h1; omega
    · split at h1 <;> simp at h1; omega
    · simp at h1
  refine ⟨?_, hlh, hhl⟩
  -- the higher bound, against the capacity
  have e1' : match rhi with | none => h = len | some r => ∀ code, (Instr.sliceBound r cap code).run P w = .ok h w := by
    cases hi with
    | none => cases rhi with
      | none => simp [bnd] at h1; exact h1.symm
      | some r => exact hh.elim
    | some a => cases rhi with
      | none => exact hh.elim
      | some r =>
        cases hh with
        | int k i =>
          simp only [bnd] at h1
          split at h1 <;> simp at h1
          rename_i hhh; subst h1
          exact fun code => run_sliceBound w k i cap code hhh.1 (by omega)
        | _ => simp [bnd] at h1
  cases rhi with
  | none =>
    simp at e1'; subst e1'
    cases rlo with
    | none => simp at e2; subst e2; simp [Instr.sliceBounds]
    | some r => simp at e2; simp [Instr.sliceBounds, e2]
  | some r' =>
    simp at e1'
    cases rlo with
    | none => simp at e2; subst e2; simp [Instr.sliceBounds, e1']
    | some r => simp at e2; simp [Instr.sliceBounds, e1', e2]

theorem extract_list (s : List UInt8) (l h : Nat) : (ByteArray.mk s.toArray).extract l h = ⟨((s.drop l).take (h - l)).toArray⟩ := by
  apply ByteArray.ext
  rw [ByteArray.data_extract]
  simp

theorem slstrE_sound {T : TypeId} {lo hi : Option AV} {rlo rhi : Option Value} {a v : AV} {ra : Value} (hw : WRel m H w) (ha : VR m w a ra) (hl : OptR m w lo rlo) (hh : OptR m w hi rhi)
    (hT : P.underlying T = some .string) (h : slstrE lo hi a = some v) : Fits P m H w (Instr.sliceAt T ra rlo rhi none) v := by
  cases ha with
  | str s =>
    simp only [slstrE, Option.bind_eq_some_iff] at h
    obtain ⟨hb, h1, lb, h2, h3⟩ := h
    simp at h3; subst h3
    have hsz : (ByteArray.mk s.toArray).size = s.length := by show s.toArray.size = _; simp
    obtain ⟨e, _, _⟩ := bounds_run (P := P) (isS := false) hl hh (Nat.le_refl _) h1 h2
    exact .same hw (by simp [Instr.sliceAt, run_underlying hT, Instr.slice, hsz, e, extract_list]) (.str _)
  | _ => simp [slstrE] at h

theorem flat_drop {es : List AV} {sz : Nat} (h : ∀ e ∈ es, e.cells.length = sz) (l : Nat) (hl : l ≤ es.length) : AV.flat (es.drop l) = (AV.flat es).drop (l * sz) := by
  induction l generalizing es with
  | zero => simp
  | succ l ih =>
    cases es with
    | nil => simp at hl
    | cons x r =>
      simp only [List.drop_succ_cons, AV.flat]
      rw [ih (fun e he => h e (by simp [he])) (by simpa using hl), Nat.add_mul, Nat.add_comm, ← List.drop_drop, Nat.one_mul]
      congr 1
      rw [List.drop_append_of_le_length (by rw [h x (by simp)]; exact Nat.le_refl _), List.drop_of_length_le (by rw [h x (by simp)]; exact Nat.le_refl _)]
      simp
theorem flat_take {es : List AV} {sz : Nat} (h : ∀ e ∈ es, e.cells.length = sz) (l : Nat) (hl : l ≤ es.length) : AV.flat (es.take l) = (AV.flat es).take (l * sz) := by
  induction l generalizing es with
  | zero => simp [AV.flat]
  | succ l ih =>
    cases es with
    | nil => simp at hl
    | cons x r =>
      simp only [List.take_succ_cons, AV.flat]
      have hx := h x (by simp)
      rw [ih (fun e he => h e (by simp [he])) (by simpa using hl), Nat.add_mul, Nat.one_mul, List.take_append, List.take_of_length_le (l := x.cells) (by rw [hx]; omega), hx, show l * sz + sz - sz = l * sz by omega]

theorem slslcE_sound {T e sz : Nat} {lo hi : Option AV} {rlo rhi : Option Value} {a v : AV} {ra : Value} (hw : WRel m H w) (ha : VR m w a ra) (hl : OptR m w lo rlo) (hh : OptR m w hi rhi)
    (hT : P.underlying T = some (.slice e)) (hsz : sizeIs P e sz = true) (h : slslcE sz lo hi a = some v) : Fits P m H w (Instr.sliceAt T ra rlo rhi none) v := by
  have run : ∀ {x : Option Addr} {len cap hb lb : Nat}, len ≤ cap → bnd hi len len = some hb → bnd lo 0 hb = some lb →
      (Instr.sliceAt T (.slice x len cap) rlo rhi none).run P w = .ok (.slice (if cap = lb then x else x.map (·.add (lb * sz))) (hb - lb) (cap - lb)) w ∧ lb ≤ hb ∧ hb ≤ len := by
    intro x len cap hb lb hle h1 h2
    obtain ⟨e1, h3, h4⟩ := bounds_run (P := P) (isS := true) hl hh hle h1 h2
    exact ⟨by simp [Instr.sliceAt, run_underlying hT, Instr.slice, e1, run_sizeIs hsz], h3, h4⟩
  cases ha with
  | slcN tk ht =>
    simp only [slslcE, Option.bind_eq_some_iff] at h
    obtain ⟨hb, h1, lb, h2, h3⟩ := h
    simp at h3; subst h3
    obtain ⟨e1, h3, h4⟩ := run (x := none) (cap := 0) (Nat.le_refl _) h1 h2
    simp at h4; subst h4
    have : lb = 0 := by omega
    subst this
    exact .same hw e1 (.slcE _ _)
  | slcE x c =>
    simp only [slslcE, Option.bind_eq_some_iff] at h
    obtain ⟨hb, h1, lb, h2, h3⟩ := h
    simp at h3; subst h3
    obtain ⟨e1, h3, h4⟩ := run (x := x) (cap := c) (Nat.zero_le _) h1 h2
    simp at h4; subst h4
    have : lb = 0 := by omega
    subst this
    exact .same hw e1 (.slcE _ _)
  | slc tk es b o cap s r hle hs hc hv ht =>
    simp only [slslcE, Option.bind_eq_some_iff] at h
    obtain ⟨hb, h1, lb, h2, h3⟩ := h
    split at h3 <;> simp at h3
    rename_i hall
    subst h3
    obtain ⟨e1, h4, h5⟩ := run (x := some ⟨b, o, none⟩) (cap := cap) hle h1 h2
    have hss : ∀ u ∈ es, u.cells.length = sz := fun u hu => by simpa using List.all_eq_true.1 hall u hu
    by_cases hz : hb - lb = 0
    · refine .same hw e1 ?_
      rw [hz]; simp only [List.take_zero]
      exact .slcE _ _
    · have hne : es ≠ [] := by intro h0; subst h0; simp at h5; omega
      have hcl : ¬ cap = lb := by omega
      have hlen : ((es.drop lb).take (hb - lb)).length = hb - lb := by simp; omega
      have hfl : AV.flat ((es.drop lb).take (hb - lb)) = ((AV.flat es).drop (lb * sz)).take ((hb - lb) * sz) := by
        rw [flat_take (fun u hu => hss u (List.mem_of_mem_drop hu)) _ (by simp; omega), flat_drop hss _ (by omega)]
      have hft : (AV.flat es).length = es.length * sz := flat_length hss
      have hlt : ∀ j, j < (AV.flat ((es.drop lb).take (hb - lb))).length → lb * sz + j < (AV.flat es).length := by
        intro j hj
        rw [hfl] at hj
        simp at hj
        omega
      refine .same hw e1 ?_
      rw [if_neg hcl]
      simp only [Option.map_some, addr_add]
      have hv' : VR m w (.slc .any ((es.drop lb).take (hb - lb))) (.slice (some ⟨b, o + lb * sz, none⟩) ((es.drop lb).take (hb - lb)).length (cap - lb)) := by
        refine .slc .any _ b (o + lb * sz) (cap - lb) sz (fun j => r (lb * sz + j)) (by rw [hlen]; omega) (fun u hu => hss u (List.mem_of_mem_drop (List.mem_of_mem_take hu))) ?_ ?_ trivial
        · intro j hj
          have := hc (lb * sz + j) (hlt j hj)
          rw [← Nat.add_assoc] at this
          exact this
        · intro j x hx
          rw [hfl, List.getElem?_take] at hx
          split at hx
          · rw [List.getElem?_drop] at hx; exact hv _ x hx
          · simp at hx
      rw [hlen] at hv'
      exact hv'
  | arr id off len s ag ad cap blk he hle had =>
    simp only [slslcE, Option.bind_eq_some_iff] at h
    obtain ⟨hb, h1, lb, h2, h3⟩ := h
    split at h3 <;> simp at h3
    rename_i hss; subst hss; subst h3
    obtain ⟨e1, h4, h5⟩ := run (x := some ad) (cap := cap) hle h1 h2
    refine .same hw e1 ?_
    by_cases hcl : cap = lb
    · rw [if_pos hcl]
      exact .arr _ _ _ _ _ _ _ blk he (by omega) (by intro; omega)
    · rw [if_neg hcl]
      simp only [Option.map_some]
      refine .arr _ _ _ _ _ _ _ blk he (by omega) (fun hp => ?_)
      have := had (by omega)
      subst this
      rw [addr_add]
  | _ => simp [slslcE] at h

end Go.Lim
