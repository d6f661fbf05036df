/- The E machine: soundness of the operations that leave the heap alone, value by value. -/
import Derived.Test.YtalahofbjnmndaaDoorLimC
set_option linter.unusedVariables false
set_option linter.unusedSimpArgs false
namespace Go.Lim
open Go.RowKit
variable {P : Program} {m : Em} {H : Heap} {w : World}

theorem guard_int (op : BinOp) (T : TypeId) (x y : Operand) (k l : IntKind) (a b : Int) (w : World) : (eqGuard op T x y (.int k a) (.int l b)).run P w = .ok () w := by
  simp [eqGuard]

theorem nanBits_ok (x y t : Nat) : NaNBits .f64 ((Question.nanBits .f64 x y).cut t) := by
  have h : (Question.nanBits .f64 x y).cut t = (t % 2) * 9223372036854775808 + 9218868437227405312 + 1 + (t / 2) % 4503599627370495 := by
    simp only [Question.cut]
  rw [h]
  generalize hq : (t % 2) * 9223372036854775808 + 9218868437227405312 + 1 + (t / 2) % 4503599627370495 = q
  have h2 : t % 2 < 2 := Nat.mod_lt _ (by omega)
  have h3 : (t / 2) % 4503599627370495 < 4503599627370495 := Nat.mod_lt _ (by omega)
  have hr : q % 9223372036854775808 > 9218868437227405312 := by
    generalize (t / 2) % 4503599627370495 = z at *
    rcases (show t % 2 = 0 ∨ t % 2 = 1 by omega) with e | e <;> rw [e] at hq <;> omega
  have e1 : FloatKind.f64.format.signWeight = 9223372036854775808 := by decide
  have e2 : FloatKind.f64.format.infRung = 9218868437227405312 := by decide
  have e3 : FloatKind.f64.format.binade = 4503599627370496 := by decide
  unfold NaNBits FloatKind.decode Ieee.Format.read
  simp only [e1, e2, e3]
  rw [if_neg (by omega), if_neg (by omega), if_neg (by omega)]
  rfl

/-- Two worlds that differ by draws. -/
theorem Le.drawn {m : Em} {H : Heap} {w w' : World} (hw : WRel m H w) (hh : w'.heap = w.heap) (ht : w'.tape = w.tape) (ho : w'.os = w.os) (hp : w'.output = w.output) : Le m w m w' ∧ WRel m H w' :=
  ⟨⟨(hw.heap hh).2, ⟨ho, ht, hp, by rw [hh]; exact Nat.le_refl _, fun k _ => by rw [hh]⟩⟩, (hw.heap hh).1⟩

theorem run_farith {op : BinOp} (x y : Nat) (w : World) (hop : op = .add ∨ op = .sub) : ∃ r w', (Op.floatArith op .f64 x y).run P w = .ok (.float .f64 r) w' ∧
    OB .f64 (if op = .add then FloatKind.f64.format.add x y else FloatKind.f64.format.sub x y) r ∧ w'.heap = w.heap ∧ w'.tape = w.tape ∧ w'.os = w.os ∧ w'.output = w.output := by
  rcases hop with rfl | rfl
  · simp only [Op.floatArith, if_true]
    cases h : FloatKind.f64.format.add x y with
    | some r => exact ⟨r, w, by simp [h], rfl, rfl, rfl, rfl, rfl⟩
    | none => exact ⟨_, { w with drawn := w.drawn + 1 }, by simp [h, Question.forced]; rfl, nanBits_ok x y _, rfl, rfl, rfl, rfl⟩
  · simp only [Op.floatArith]
    cases h : FloatKind.f64.format.sub x y with
    | some r => exact ⟨r, w, by simp [h], by simp [OB], rfl, rfl, rfl, rfl⟩
    | none => exact ⟨_, { w with drawn := w.drawn + 1 }, by simp [h, Question.forced]; rfl, by simp [OB]; exact nanBits_ok x y _, rfl, rfl, rfl, rfl⟩

theorem binE_sound {op : BinOp} {T : TypeId} {x y : Operand} {a b v : AV} {ra rb : Value} (hw : WRel m H w) (ha : VR m w a ra) (hb : VR m w b rb) (h : binE op a b = some v) :
    Fits P m H w (do eqGuard op T x y ra rb; binOp op T ra rb) v := by
  cases ha with
  | int k a =>
    cases hb with
    | int l b =>
      by_cases hsh : op = .shl ∨ op = .shr
      · rcases hsh with rfl | rfl <;> simp only [binE] at h <;> split at h <;> simp at h <;> subst h
        · exact .same hw (r := .int k (k.wrap (a * 2 ^ (min b.toNat k.bits)))) (by simp [guard_int, binOp, Op.shift, *]) (.int _ _)
        · exact .same hw (r := .int k (a.fdiv (2 ^ (min b.toNat k.bits)))) (by simp [guard_int, binOp, Op.shift, *]) (.int _ _)
      · have h' : (if k = l then intE op k a b else none) = some v := by
          cases op <;> first | exact h | (exact absurd (by simp) hsh)
        split at h'
        · rename_i hkl; subst hkl
          cases op <;> simp [intE] at h' <;> first
            | (obtain ⟨h1, h2⟩ := h'; subst h2; refine .same hw ?_ (.int _ _); simp [guard_int, binOp, Op.intDiv, h1]; done)
            | (subst h'; refine .same hw ?_ (.int _ _); simp [guard_int, binOp, Op.intArith, Op.intBits]; done)
            | (subst h'; refine .same hw ?_ (.bool _); simp [guard_int, binOp, Op.intCmp]; done)
        · simp at h'
    | _ => simp [binE] at h
  | str s =>
    cases hb with
    | str t =>
      simp only [binE] at h
      have hl1 : (ByteArray.mk s.toArray).toList = s := by simp [ByteArray.toList_eq]
      have hl2 : (ByteArray.mk t.toArray).toList = t := by simp [ByteArray.toList_eq]
      have hg : ∀ w, (eqGuard op T x y (.string ⟨s.toArray⟩) (.string ⟨t.toArray⟩)).run P w = .ok () w := by intro w; simp [eqGuard]
      cases op <;> simp [strE] at h <;> first
        | (subst h; refine .same hw ?_ (.bool _); simp [hg, binOp, Op.stringOp, hl1, hl2])
        | (obtain ⟨h1, h2⟩ := h; subst h2
           refine .same hw (r := .string ⟨(s ++ t).toArray⟩) ?_ (.str _)
           have hc : (ByteArray.mk s.toArray ++ ByteArray.mk t.toArray) = ByteArray.mk (s ++ t).toArray := ByteArray.ext (by simp)
           have h3 : ¬ (((ByteArray.mk s.toArray).size + (ByteArray.mk t.toArray).size : Nat) : Int) > IntKind.i64.max := by
             show ¬ ((s.toArray.size + t.toArray.size : Nat) : Int) > 9223372036854775807
             simp; omega
           simp only [Sem.run_bind, hg, Result.andThen_ok, binOp, Op.stringOp, if_neg h3, hc]; rfl)
    | _ => simp [binE] at h
  | flt k a ra hra =>
    cases hb with
    | flt l b rb hrb =>
      simp only [binE] at h
      split at h
      · rename_i hkl; subst hkl
        cases k with
        | f32 => simp [fltE] at h
        | f64 =>
          cases a with
          | none => simp [fltE] at h
          | some a =>
            cases b with
            | none => simp [fltE] at h
            | some b =>
              simp only [OB] at hra hrb
              subst hra; subst hrb
              have hg : ∀ w, (eqGuard op T x y (.float .f64 ra) (.float .f64 rb)).run P w = .ok () w := by intro w; simp [eqGuard]
              cases op <;> simp [fltE] at h
              · subst h
                obtain ⟨r, w', h1, h2, h3, h4, h5, h6⟩ := run_farith (P := P) (op := .add) ra rb w (.inl rfl)
                exact ⟨.float .f64 r, m, w', by simp [hg, binOp, h1], .flt _ _ _ (by simpa using h2), (Le.drawn hw h3 h4 h5 h6).1, (Le.drawn hw h3 h4 h5 h6).2, rfl⟩
              · subst h
                obtain ⟨r, w', h1, h2, h3, h4, h5, h6⟩ := run_farith (P := P) (op := .sub) ra rb w (.inr rfl)
                exact ⟨.float .f64 r, m, w', by simp [hg, binOp, h1], .flt _ _ _ (by simpa using h2), (Le.drawn hw h3 h4 h5 h6).1, (Le.drawn hw h3 h4 h5 h6).2, rfl⟩
              all_goals (subst h; exact .same hw (by simp [hg, binOp, Op.floatCmp]) (.bool _))
      · simp at h
    | _ => simp [binE] at h
  | cpx k a b ra rb' hra hrb =>
    cases hb with
    | cpx l c d rc rd hrc hrd =>
      simp only [binE] at h
      split at h
      · rename_i hkl; subst hkl
        cases k with
        | f32 => exfalso; cases op <;> simp at h <;> cases a <;> cases c <;> simp [fltE] at h
        | f64 =>
          have hg : ∀ w, (eqGuard op T x y (.complex .f64 ra rb') (.complex .f64 rc rd)).run P w = .ok () w := by intro w; simp [eqGuard]
          have key : ∀ (o : BinOp), (o = .add ∨ o = .sub) → op = o → Fits P m H w (do eqGuard op T x y (.complex .f64 ra rb') (.complex .f64 rc rd); binOp op T (.complex .f64 ra rb') (.complex .f64 rc rd)) v := by
            intro o ho hoo
            subst hoo
            cases a with
            | none => exfalso; rcases ho with rfl | rfl <;> simp [fltE] at h
            | some a =>
              cases c with
              | none => exfalso; rcases ho with rfl | rfl <;> simp [fltE] at h
              | some c =>
                cases b with
                | none => exfalso; rcases ho with rfl | rfl <;> simp [fltE] at h
                | some b =>
                  cases d with
                  | none => exfalso; rcases ho with rfl | rfl <;> simp [fltE] at h
                  | some d =>
                    simp only [OB] at hra hrb hrc hrd
                    subst hra; subst hrb; subst hrc; subst hrd
                    obtain ⟨r, w1, h1, h2, h3, h4, h5, h6⟩ := run_farith (P := P) (op := op) ra rc w ho
                    obtain ⟨r', w2, h1', h2', h3', h4', h5', h6'⟩ := run_farith (P := P) (op := op) rb' rd w1 ho
                    have hL := Le.drawn hw (h3'.trans h3) (h4'.trans h4) (h5'.trans h5) (h6'.trans h6)
                    refine ⟨.complex .f64 r r', m, w2, ?_, ?_, hL.1, hL.2, rfl⟩
                    · rcases ho with rfl | rfl <;> simp [hg, binOp, Op.complexOp, Op.Complex.arith, h1, h1']
                    · rcases ho with rfl | rfl <;> simp [fltE] at h <;> subst h <;> exact .cpx _ _ _ _ _ (by simpa using h2) (by simpa using h2')
          cases op <;> simp at h
          · exact key .add (.inl rfl) rfl
          · exact key .sub (.inr rfl) rfl
      · simp at h
    | _ => simp [binE] at h
  | _ => simp [binE] at h

theorem eqbE_sound {neg : Bool} {op : BinOp} {T : TypeId} {x y : Operand} {a b v : AV} {ra rb : Value} (hw : WRel m H w) (ha : VR m w a ra) (hb : VR m w b rb)
    (hT : P.underlying T = some .bool) (hop : op = (if neg then .neq else .eql)) (h : eqbE neg a b = some v) : Fits P m H w (do eqGuard op T x y ra rb; binOp op T ra rb) v := by
  cases ha with
  | bool a =>
    cases hb with
    | bool b =>
      simp [eqbE] at h; subst h; subst hop
      have hg : ∀ (o : BinOp) w, (eqGuard o T x y (.bool a) (.bool b)).run P w = .ok () w := by intro o w; simp [eqGuard]
      refine .same hw ?_ (.bool _)
      cases neg
      · simp [hg, run_eql_bool w T a b hT]
      · simp [hg, run_neq_bool w T a b hT]
        cases a <;> cases b <;> rfl
    | _ => simp [eqbE] at h
  | _ => simp [eqbE] at h

theorem unE_sound {op : UnOp} {a v : AV} {ra : Value} (hw : WRel m H w) (ha : VR m w a ra) (h : unE op a = some v) : Fits P m H w (Op.unary op ra) v := by
  cases ha with
  | int k n =>
    cases op <;> simp [unE] at h
    · subst h; exact .same hw (by simp [Op.unary, Op.intArith]) (.int _ _)
    · subst h; exact .same hw (by simp [Op.unary, Op.intBits]) (.int _ _)
  | bool b =>
    cases op <;> simp [unE] at h
    subst h; exact .same hw (by simp [Op.unary]) (.bool _)
  | _ => simp [unE] at h

theorem i2iE_sound {k : IntKind} {src dst : TypeId} {a v : AV} {ra : Value} {d : TypeDesc} (hw : WRel m H w) (ha : VR m w a ra) (hs : P.underlying src = some d) (hd : P.underlying dst = some (.int k)) (h : i2iE k a = some v) :
    Fits P m H w (convert src dst ra) v := by
  cases ha with
  | int l n =>
    simp [i2iE] at h; subst h
    exact .same hw (by simp [convert, run_underlying hs, run_underlying hd, Conv.intToInt]) (.int _ _)
  | _ => simp [i2iE] at h

theorem idcE_sound {src dst : TypeId} {a v : AV} {ra : Value} {d : TypeDesc} (hw : WRel m H w) (ha : VR m w a ra) (hs : P.underlying src = some d) (hd : P.underlying dst = some .string) (h : idcE a = some v) :
    Fits P m H w (convert src dst ra) v := by
  cases ha with
  | str s =>
    simp [idcE] at h; subst h
    exact .same hw (by simp [convert, run_underlying hs, run_underlying hd]) (.str _)
  | _ => simp [idcE] at h

theorem faddrE_sound {off : Nat} {T n : Nat} {fields : Array Field} {f : Field} {a v : AV} {ra : Value} (hw : WRel m H w) (ha : VR m w a ra) (hT : P.underlying T = some (.struct fields)) (hf : fields[n]? = some f)
    (ho : f.offset = off) {sz : Nat} (hsz : sizeIs P f.type (sz + 1) = true) (h : faddrE off a = some v) : Fits P m H w (Instr.fieldAt T ra n) v := by
  subst ho
  cases ha with
  | ptr id o blk he =>
    simp [faddrE] at h; subst h
    exact .same hw (by simp [Instr.fieldAt, run_underlying hT, hf, Instr.sureAddr, fieldPlace, run_sizeIs hsz, addr_add]) (.ptr _ _ _ he)
  | rop cs o b p r hc hv =>
    simp [faddrE] at h; subst h
    exact .same hw (by simp [Instr.fieldAt, run_underlying hT, hf, Instr.sureAddr, fieldPlace, run_sizeIs hsz, addr_add, Nat.add_assoc]) (.rop cs _ b p r hc hv)
  | _ => simp [faddrE] at h

theorem idxOf_some {i : Int} {n j : Nat} (h : idxOf i n = some j) : 0 ≤ i ∧ i < n ∧ i.toNat = j ∧ j < n := by
  unfold idxOf at h
  split at h <;> simp at h
  rename_i hh; subst h
  exact ⟨hh.1, hh.2, rfl, by omega⟩

theorem flat_le {es : List AV} {sz i : Nat} {e : AV} (h : ∀ e ∈ es, e.cells.length = sz) (hi : es[i]? = some e) : i * sz + sz ≤ (AV.flat es).length := by
  have hl := (List.getElem?_eq_some_iff.1 hi).1
  rw [flat_length h, ← Nat.succ_mul]
  exact Nat.mul_le_mul_right _ hl

theorem iaddrE_sound {T e sz : Nat} {a i v : AV} {ra ri : Value} (hw : WRel m H w) (ha : VR m w a ra) (hi : VR m w i ri) (hT : P.underlying T = some (.slice e)) (hsz : sizeIs P e sz = true)
    (h : iaddrE sz a i = some v) : Fits P m H w (Instr.indexAt T ra ri) v := by
  cases hi with
  | int k n =>
    cases ha with
    | slc tk es b o cap s r hle hs hc hv ht =>
      simp only [iaddrE, Option.bind_eq_some_iff] at h
      obtain ⟨j, hj, u, hu, h⟩ := h
      obtain ⟨h0, h1, rfl, hlt⟩ := idxOf_some hj
      split at h <;> simp at h
      rename_i hcl
      subst h
      have hss : s = sz := by rw [← hs u (List.mem_of_getElem? hu)]; exact hcl
      subst hss
      have hle' := flat_le hs hu
      refine .same hw (r := .pointer (some ⟨b, o + n.toNat * s + 0, none⟩)) ?_ (.rop u.cells 0 b (o + n.toNat * s) (fun j => r (n.toNat * s + j)) ?_ ?_)
      · simp [Instr.indexAt, asIntOf, run_underlying hT, h0, h1, run_sizeIs hsz, addr_add]
      · intro j hj
        have := hc (n.toNat * s + j) (by omega)
        rw [← Nat.add_assoc] at this
        exact this
      · intro j x hx
        have hj : j < s := by rw [← hcl]; exact (List.getElem?_eq_some_iff.1 hx).1
        exact hv _ _ (by rw [flat_getElem hs _ _ hu j hj]; exact hx)
    | slcN tk ht => simp [iaddrE, idxOf] at h
    | slcE a c => simp [iaddrE, idxOf] at h
    | arr id off len s ag ad cap blk he hl had =>
      simp only [iaddrE, Option.bind_eq_some_iff] at h
      obtain ⟨j, hj, h⟩ := h
      obtain ⟨h0, h1, rfl, hlt⟩ := idxOf_some hj
      split at h <;> simp at h
      rename_i hss; subst hss; subst h
      have := had (by omega)
      subst this
      exact .same hw (by simp [Instr.indexAt, asIntOf, run_underlying hT, h0, h1, run_sizeIs hsz, addr_add]) (.ptr _ _ _ he)
    | _ => simp [iaddrE] at h
  | _ => cases a <;> simp [iaddrE] at h

theorem iaddraE_sound {T e len sz : Nat} {a i v : AV} {ra ri : Value} (hw : WRel m H w) (ha : VR m w a ra) (hi : VR m w i ri) (hT : P.underlying T = some (.array len e)) (hsz : sizeIs P e sz = true)
    (h : iaddraE len sz a i = some v) : Fits P m H w (Instr.indexAt T ra ri) v := by
  cases hi with
  | int k n =>
    cases ha with
    | ptr id off blk he =>
      simp only [iaddraE, Option.bind_eq_some_iff] at h
      obtain ⟨j, hj, h⟩ := h
      obtain ⟨h0, h1, rfl, hlt⟩ := idxOf_some hj
      simp at h; subst h
      exact .same hw (by simp [Instr.indexAt, asIntOf, run_underlying hT, h0, h1, run_sizeIs hsz, addr_add, Instr.sureAddr]) (.ptr _ _ _ he)
    | rop cs off b o r hc hv =>
      simp only [iaddraE, Option.bind_eq_some_iff] at h
      obtain ⟨j, hj, h⟩ := h
      obtain ⟨h0, h1, rfl, hlt⟩ := idxOf_some hj
      simp at h; subst h
      exact .same hw (by simp [Instr.indexAt, asIntOf, run_underlying hT, h0, h1, run_sizeIs hsz, addr_add, Instr.sureAddr, Nat.add_assoc]) (.rop cs _ b o r hc hv)
    | _ => simp [iaddraE] at h
  | _ => cases a <;> simp [iaddraE] at h

/-- A part of an aggregate. -/
theorem run_part_of {t n : Nat} {ag : Bool} {off : Nat} {cs : List AV} {rs : List Value} {vs : List AV} {v : AV} (hs : sizeIs P t n = true) (ha : isAggT P t = some ag) (hr : VRL m w cs rs)
    (h1 : rdc cs off n = some vs) (h2 : asg ag vs = some v) : ∃ r, (part t rs.toArray off).run P w = .ok r w ∧ VR m w v r := by
  obtain ⟨hl, hvs, hlen⟩ := rdc_some h1
  have hr' := (hr.drop off).take n
  rw [← hvs] at hr'
  rcases asg_some h2 with ⟨rfl, rfl⟩ | ⟨rfl, rfl⟩
  · refine ⟨.agg ((rs.drop off).take n).toArray, ?_, .agg _ _ hr'.1 hr'.2⟩
    simp [part, run_isAgg ha, run_sizeIs hs]
  · have hn : n = 1 := by rw [← hlen]; rfl
    subst hn
    obtain ⟨r, hr1⟩ : ∃ r, rs[off]? = some r := by
      have : off < rs.length := by rw [← hr.1]; omega
      exact ⟨rs[off], List.getElem?_eq_getElem this⟩
    refine ⟨r, ?_, hr'.2 0 v r rfl (by simp [hr1])⟩
    simp [part, run_isAgg ha, hr1]

theorem fieldE_sound {off n fi T : Nat} {ag : Bool} {fields : Array Field} {f : Field} {a v : AV} {ra : Value} (hw : WRel m H w) (ha : VR m w a ra) (hT : P.underlying T = some (.struct fields)) (hf : fields[fi]? = some f)
    (ho : f.offset = off) (hs : sizeIs P f.type n = true) (hag : isAggT P f.type = some ag) (h : fieldE off n ag a = some v) : Fits P m H w (Instr.field T ra fi) v := by
  subst ho
  cases ha with
  | agg cs rs hl hv =>
    simp only [fieldE, Option.bind_eq_some_iff] at h
    obtain ⟨vs, h1, h2⟩ := h
    obtain ⟨r, hr, hvr⟩ := run_part_of (P := P) hs hag ⟨hl, hv⟩ h1 h2
    exact .same hw (by simp [Instr.field, run_underlying hT, hf, asAgg, hr]) hvr
  | _ => simp [fieldE] at h

theorem idxaE_sound {len sz T e : Nat} {ag : Bool} {a i v : AV} {ra ri : Value} (hw : WRel m H w) (ha : VR m w a ra) (hi : VR m w i ri) (hT : P.underlying T = some (.array len e))
    (hs : sizeIs P e sz = true) (hag : isAggT P e = some ag) (h : idxaE len sz ag a i = some v) : Fits P m H w (Instr.index T ra ri) v := by
  cases hi with
  | int k n =>
    cases ha with
    | agg cs rs hl hv =>
      simp only [idxaE, Option.bind_eq_some_iff] at h
      obtain ⟨j, hj, vs, h1, h2⟩ := h
      obtain ⟨h0, h3, rfl, hlt⟩ := idxOf_some hj
      obtain ⟨r, hr, hvr⟩ := run_part_of (P := P) hs hag ⟨hl, hv⟩ h1 h2
      exact .same hw (by simp [Instr.index, asIntOf, run_underlying hT, h0, h3, run_sizeIs hs, hr]) hvr
    | _ => simp [idxaE] at h
  | _ => cases a <;> simp [idxaE] at h

theorem idxsE_sound {T : Nat} {a i v : AV} {ra ri : Value} (hw : WRel m H w) (ha : VR m w a ra) (hi : VR m w i ri) (hT : P.underlying T = some .string)
    (h : idxsE a i = some v) : Fits P m H w (Instr.index T ra ri) v := by
  cases hi with
  | int k n =>
    cases ha with
    | str s =>
      simp only [idxsE, Option.bind_eq_some_iff, Option.map_eq_some_iff] at h
      obtain ⟨j, hj, b, h1, rfl⟩ := h
      obtain ⟨h0, h3, rfl, hlt⟩ := idxOf_some hj
      have hsz : (ByteArray.mk s.toArray).size = s.length := by show s.toArray.size = _; simp
      refine .same hw ?_ (.int .u8 b.toNat)
      rw [run_index_string w T _ k n hT, dif_pos ⟨h0, by rw [hsz]; exact h3⟩]
      rw [List.getElem?_eq_getElem hlt] at h1
      simp at h1
      simp [ByteArray.getElem_eq_getElem_data, h1]
    | _ => simp [idxsE] at h
  | _ => cases a <;> simp [idxsE] at h

theorem extractE_sound {n : Nat} {a v : AV} {ra : Value} (hw : WRel m H w) (ha : VR m w a ra) (h : extractE n a = some v) : Fits P m H w (Instr.extract ra n) v := by
  cases ha with
  | tup cs rs hl hv =>
    simp only [extractE] at h
    have hlt : n < rs.length := by rw [← hl]; exact (List.getElem?_eq_some_iff.1 h).1
    exact .same hw (by simp [Instr.extract, List.getElem?_eq_getElem hlt]) (hv n v _ h (List.getElem?_eq_getElem hlt))
  | _ => simp [extractE] at h

end Go.Lim
