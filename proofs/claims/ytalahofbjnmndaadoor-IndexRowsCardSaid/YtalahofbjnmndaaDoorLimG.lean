/- The E machine: soundness of operations, part 4: equality, maps read, aggregates built. -/
import Derived.Test.YtalahofbjnmndaaDoorLimF
import Derived.WideKeyRuns
set_option linter.unusedVariables false
set_option linter.unusedSimpArgs false
namespace Go.Lim
open Go.RowKit
variable {P : Program} {m : Em} {H : Heap} {w : World}

/-- The nil of a kind, and its type. -/
def nilT (P : Program) (T : TypeId) : NK → Value → Bool
  | .p, .pointer none => match P.underlying T with | some (.pointer _) => true | _ => false
  | .s, .slice none 0 0 => match P.underlying T with | some (.slice _) => true | _ => false
  | .m, .map none => match P.underlying T with | some (.map _ _) => true | _ => false
  | .f, .nilFunc => match P.underlying T with | some (.func _ _ _) => true | _ => false
  | .i, .nilIface => match P.underlying T with | some (.interface _) => true | _ => false
  | _, _ => false

theorem eqnil_core {d : Nat} {T : TypeId} {k : NK} {a : AV} {ra rn : Value} {b : Bool} (ha : VR m w a ra) (hk : nilT P T k rn = true) (h : isNilE k a = some b) :
    (Op.equalIn (d + 1) T ra rn).run P w = .ok b w := by
  unfold nilT at hk
  split at hk
  · split at hk <;> simp at hk
    rename_i e he
    cases ha <;> simp [isNilE] at h <;> subst h <;> simp [Op.equalIn, run_underlying he]
  · split at hk <;> simp at hk
    rename_i e he
    cases ha <;> first
      | (simp [isNilE] at h; done)
      | (rename_i tk ht; rcases ht with rfl | rfl <;> simp [isNilE] at h; subst h; simp [Op.equalIn, run_underlying he]; done)
      | (simp [isNilE] at h; subst h; simp [Op.equalIn, run_underlying he]; done)
      | skip
    rename_i tk es bb o cap sz r hle hs hc hv ht
    have : b = false := by
      cases tk
      · simp [TokOK] at ht
      all_goals (cases es <;> simp [isNilE] at h <;> first | exact h | exact h.symm)
    subst this
    simp [Op.equalIn, run_underlying he]
  · split at hk <;> simp at hk
    rename_i k e he
    cases ha <;> simp [isNilE] at h <;> subst h <;> simp [Op.equalIn, run_underlying he]
  · split at hk <;> simp at hk
    rename_i k e vv he
    cases ha <;> simp [isNilE] at h <;> subst h <;> simp [Op.equalIn, run_underlying he]
  · split at hk <;> simp at hk
    rename_i ms he
    cases ha <;> simp [isNilE] at h <;> subst h <;> simp [Op.equalIn, run_underlying he]
  · simp at hk

theorem eqnilE_sound {T : TypeId} {k : NK} {neg : Bool} {op : BinOp} {x : Operand} {c : Value} {a : AV} {ra : Value} {b : Bool} (hw : WRel m H w) (ha : VR m w a ra) (hk : nilT P T k c = true)
    (hop : op = (if neg then .neq else .eql)) (h : isNilE k a = some b) : Fits P m H w (do eqGuard op T x (.const c) ra c; binOp op T ra c) (.bool (if neg then !b else b)) := by
  have hcore := eqnil_core (d := 9999) ha hk h
  have hg : ∀ w, (eqGuard op T x (.const c) ra c).run P w = .ok () w := by
    intro w
    unfold eqGuard
    unfold nilT at hk
    split at hk <;> first
      | (simp at hk; done)
      | (cases ha <;> simp [isNilE] at h <;> (split <;> simp_all))
  have hb : (binOp op T ra c).run P w = .ok (.bool (if neg then !b else b)) w := by
    subst hop
    unfold nilT at hk
    split at hk <;> first
      | (simp at hk; done)
      | (cases ha <;> first
          | (simp [isNilE] at h; done)
          | (cases neg <;> simp only [if_true, if_false, Bool.false_eq_true, binOp] <;> simp [Op.equal, Op.maxDepth, hcore]))
  exact .same hw (by simp [hg, hb]) (.bool _)

/-! ### '==' of cells -/
def skT (P : Program) (t : TypeId) : SK → Bool
  | .int => match P.underlying t with | some (.int _) => true | _ => false
  | .bool => match P.underlying t with | some .bool => true | _ => false
  | .str => match P.underlying t with | some .string => true | _ => false
def flatFields (P : Program) : Nat → List Field → List SK → Bool
  | _, [], [] => true
  | i, f :: fs, k :: ks => decide (f.offset = i) && decide (f.name ≠ "_") && skT P f.type k && flatFields P (i + 1) fs ks
  | _, _, _ => false
def structT (P : Program) (t : TypeId) (ks : List SK) : Bool :=
  match P.underlying t with
  | some (.struct fs) => flatFields P 0 fs.toList ks && !P.stoodInHeld t && !P.eqGuardType P.depth t
  | _ => false
/-- A scalar, or a struct of scalars. -/
def keyT (P : Program) (t : TypeId) : KK → Bool
  | .one k => skT P t k
  | .st ks => structT P t ks

theorem eqOne_run {d : Nat} {t : TypeId} {k : SK} {a b : AV} {ra rb : Value} {e : Bool} (ha : VR m w a ra) (hb : VR m w b rb) (ht : skT P t k = true) (h : eqOne k a b = some e) :
    (Op.equalIn (d + 1) t ra rb).run P w = .ok e w := by
  cases k <;> simp only [skT] at ht <;> split at ht <;> simp at ht
  · rename_i kk hu
    cases ha <;> cases hb <;> simp [eqOne] at h
    obtain ⟨rfl, rfl⟩ := h
    rw [run_equalIn_int w d t _ kk _ _ hu]
    rfl
  · rename_i hu
    cases ha <;> cases hb <;> simp [eqOne] at h
    subst h
    rw [run_equalIn_bool' w d t _ _ hu]
    rfl
  · rename_i hu
    cases ha <;> cases hb <;> simp [eqOne] at h
    subst h
    rename_i x y
    rw [run_equalIn_string w d t _ _ hu]
    have e1 : (ByteArray.mk x.toArray).toList = x := by simp [ByteArray.toList_eq]
    have e2 : (ByteArray.mk y.toArray).toList = y := by simp [ByteArray.toList_eq]
    rw [e1, e2]
    congr 1
    exact Bool.eq_iff_iff.2 (by simp)

theorem sk_isAgg {t : TypeId} {k : SK} (h : skT P t k = true) : isAggT P t = some false := by
  unfold isAggT
  cases k <;> simp only [skT] at h <;> split at h <;> simp at h <;> simp_all

theorem run_part_one {t : TypeId} {k : SK} (h : skT P t k = true) {xs : Array Value} {off : Nat} {v : Value} (hx : xs[off]? = some v) : (part t xs off).run P w = .ok v w := by
  simp [part, run_isAgg (sk_isAgg h), hx]

theorem eqFields_run {d : Nat} {rs ss : Array Value} : ∀ (ks : List SK) (fs : List Field) (i : Nat) (as bs : List AV) (e : Bool), flatFields P i fs ks = true →
    VRL m w as (rs.toList.drop i) → VRL m w bs (ss.toList.drop i) → eqCells ks as bs = some e → (Op.eqFields (d + 1) rs ss fs).run P w = .ok e w
  | [], fs, i, as, bs, e, hf, ha, hb, h => by
    cases fs <;> simp [flatFields] at hf
    cases as <;> cases bs <;> simp [eqCells] at h
    subst h
    simp [Op.eqFields]
  | k :: ks, fs, i, as, bs, e, hf, ha, hb, h => by
    cases fs with
    | nil => simp [flatFields] at hf
    | cons f fs =>
      simp only [flatFields, Bool.and_eq_true, decide_eq_true_eq] at hf
      obtain ⟨⟨⟨h1, h2⟩, h3⟩, h4⟩ := hf
      cases as with
      | nil => simp [eqCells] at h
      | cons a as =>
        cases bs with
        | nil => simp [eqCells] at h
        | cons b bs =>
          simp only [eqCells, Option.bind_eq_some_iff] at h
          obtain ⟨e1, h5, e2, h6, h7⟩ := h
          simp at h7; subst h7
          have la : i < rs.toList.length := by have := ha.1; simp at this; simp; omega
          have lb : i < ss.toList.length := by have := hb.1; simp at this; simp; omega
          rw [List.drop_eq_getElem_cons la] at ha
          rw [List.drop_eq_getElem_cons lb] at hb
          have hra : rs[f.offset]? = some rs.toList[i] := by rw [h1, ← Array.getElem?_toList, List.getElem?_eq_getElem la]
          have hrb : ss[f.offset]? = some ss.toList[i] := by rw [h1, ← Array.getElem?_toList, List.getElem?_eq_getElem lb]
          have hv := eqOne_run (d := d) (ha.2 0 a _ rfl rfl) (hb.2 0 b _ rfl rfl) h3 h5
          have ih := eqFields_run (d := d) (rs := rs) (ss := ss) ks fs (i + 1) as bs e2 h4 ⟨by have := ha.1; simpa using this, fun j x y hx hy => ha.2 (j + 1) x y (by simpa using hx) (by simpa using hy)⟩
            ⟨by have := hb.1; simpa using this, fun j x y hx hy => hb.2 (j + 1) x y (by simpa using hx) (by simpa using hy)⟩ h6
          simp only [Op.eqFields, ne_eq, h2, not_false_eq_true, if_true, Sem.run_bind, run_part_one h3 hra, run_part_one h3 hrb, Result.andThen_ok, hv]
          cases e1
          · simp
          · simp [ih]

theorem eqStruct_run {d : Nat} {t : TypeId} {ks : List SK} {as bs : List AV} {rs ss : Array Value} {e : Bool} (ht : structT P t ks = true) (ha : VRL m w as rs.toList) (hb : VRL m w bs ss.toList)
    (h : eqCells ks as bs = some e) : (Op.equalIn (d + 2) t (.agg rs) (.agg ss)).run P w = .ok e w := by
  unfold structT at ht
  split at ht <;> simp at ht
  rename_i fs hu
  have hf : P.fieldsOf t = fs := by simp [Program.fieldsOf, hu]
  rw [run_equalIn_struct w (d + 1) t rs ss (by rw [hf]; exact hu) ht.1.2, hf]
  exact eqFields_run ks fs.toList 0 as bs e ht.1.1 (by simpa using ha) (by simpa using hb) h

theorem eqsE_sound {T : TypeId} {ks : List SK} {neg : Bool} {op : BinOp} {x y : Operand} {a b v : AV} {ra rb : Value} (hw : WRel m H w) (ha : VR m w a ra) (hb : VR m w b rb)
    (hT : structT P T ks = true) (hop : op = (if neg then .neq else .eql)) (h : eqsE ks neg a b = some v) : Fits P m H w (do eqGuard op T x y ra rb; binOp op T ra rb) v := by
  cases ha with
  | agg cs rs hl hv =>
    cases hb with
    | agg ds ss hl' hv' =>
      simp only [eqsE, Option.map_eq_some_iff] at h
      obtain ⟨e, h1, rfl⟩ := h
      have hr := eqStruct_run (d := 9998) (rs := rs.toArray) (ss := ss.toArray) hT (by simpa using ⟨hl, hv⟩) (by simpa using ⟨hl', hv'⟩) h1
      have hgt : P.eqGuardType P.depth T = false := by
        unfold structT at hT
        split at hT <;> simp at hT
        exact hT.2
      have hg : ∀ w, (eqGuard op T x y (.agg rs.toArray) (.agg ss.toArray)).run P w = .ok () w := fun w => run_eqGuard_agg w op T x y _ _ hgt
      refine .same hw ?_ (.bool _)
      have hr' : (Op.equalIn 10000 T (.agg rs.toArray) (.agg ss.toArray)).run P w = .ok e w := hr
      rw [Sem.run_bind, hg, Result.andThen_ok]
      subst hop
      cases neg
      · simp only [Bool.false_eq_true, if_false, run_eql_struct, hr', Result.andThen_ok]
      · simp only [if_true, run_neq_struct, hr', Result.andThen_ok]
    | _ => simp [eqsE] at h
  | _ => simp [eqsE] at h

theorem keyEq_run {t : TypeId} {kk : KK} {a b : AV} {ra rb : Value} {e : Bool} (hT : keyT P t kk = true) (ha : VR m w a ra) (hb : VR m w b rb) (h : keyEq kk a b = some e) : (Op.equal t ra rb).run P w = .ok e w := by
  cases kk with
  | one k => exact eqOne_run (d := 9999) ha hb hT h
  | st ks =>
    cases ha <;> try (simp [keyEq] at h; done)
    rename_i cs rs hl hv
    cases hb <;> try (simp [keyEq] at h; done)
    rename_i ds ss hl' hv'
    exact eqStruct_run (d := 9998) (rs := rs.toArray) (ss := ss.toArray) hT (by simpa using ⟨hl, hv⟩) (by simpa using ⟨hl', hv'⟩) h

theorem eqOne_true {k : SK} {a b : AV} (h : eqOne k a b = some true) : a = b := by
  cases k <;> cases a <;> cases b <;> simp [eqOne] at h
  · obtain ⟨rfl, rfl⟩ := h; rfl
  · subst h; rfl
  · subst h; rfl
theorem eqOne_scalar {k : SK} {a b : AV} {e : Bool} (h : eqOne k a b = some e) {ra rb : Value} (ha : VR m w a ra) (hb : VR m w b rb) (he : e = true) : ra = rb ∧ ∀ n, Instr.sameBits n ra rb = true := by
  subst he
  have := eqOne_true h
  subst this
  cases k <;> cases ha <;> simp [eqOne] at h <;> cases hb <;> exact ⟨rfl, fun n => by cases n <;> simp [Instr.sameBits, beq_toListBytes]⟩

theorem eqCells_true {ks : List SK} : ∀ {as bs : List AV} {rs ss : List Value}, eqCells ks as bs = some true → VRL m w as rs → VRL m w bs ss → rs = ss ∧ ∀ n, (rs.zip ss).all (fun (x, y) => Instr.sameBits n x y) = true := by
  induction ks with
  | nil =>
    intro as bs rs ss h ha hb
    cases as <;> cases bs <;> simp [eqCells] at h
    have h1 := ha.1; have h2 := hb.1
    simp at h1 h2
    have : rs = [] := List.eq_nil_of_length_eq_zero h1.symm
    subst this
    have : ss = [] := List.eq_nil_of_length_eq_zero h2.symm
    subst this
    simp
  | cons k ks ih =>
    intro as bs rs ss h ha hb
    cases as with
    | nil => simp [eqCells] at h
    | cons a as =>
      cases bs with
      | nil => simp [eqCells] at h
      | cons b bs =>
        simp only [eqCells, Option.bind_eq_some_iff] at h
        obtain ⟨e1, h5, e2, h6, h7⟩ := h
        simp at h7
        obtain ⟨rfl, rfl⟩ := h7
        cases rs with
        | nil => have := ha.1; simp at this
        | cons r rs =>
          cases ss with
          | nil => have := hb.1; simp at this
          | cons s ss =>
            obtain ⟨h8, h9⟩ := ih h6 ⟨by have := ha.1; simpa using this, fun j x y hx hy => ha.2 (j + 1) x y (by simpa using hx) (by simpa using hy)⟩
              ⟨by have := hb.1; simpa using this, fun j x y hx hy => hb.2 (j + 1) x y (by simpa using hx) (by simpa using hy)⟩
            have h10 := (eqOne_scalar h5 (ha.2 0 a r rfl rfl) (hb.2 0 b s rfl rfl) rfl)
            refine ⟨by rw [h8, h10.1], fun n => ?_⟩
            simp only [List.zip_cons_cons, List.all_cons, h10.2 n, h9 n, Bool.and_self]

theorem keyEq_bits {kk : KK} {a b : AV} {ra rb : Value} (ha : VR m w a ra) (hb : VR m w b rb) (h : keyEq kk a b = some true) : ra = rb ∧ Instr.sameBits 10000 ra rb = true := by
  cases kk with
  | one k => exact ⟨(eqOne_scalar h ha hb rfl).1, (eqOne_scalar h ha hb rfl).2 _⟩
  | st ks =>
    cases ha <;> try (simp [keyEq] at h; done)
    rename_i cs rs hl hv
    cases hb <;> try (simp [keyEq] at h; done)
    rename_i ds ss hl' hv'
    obtain ⟨h1, h2⟩ := eqCells_true h ⟨hl, hv⟩ ⟨hl', hv'⟩
    refine ⟨by rw [h1], ?_⟩
    show Instr.sameBits (9999 + 1) _ _ = true
    simp only [Instr.sameBits, Bool.and_eq_true]
    exact ⟨by simp [h1], by simpa using h2 9999⟩

theorem sk_checkKey {t : TypeId} {k : SK} {em : Bool} {n : Nat} {v : Value} (h : skT P t k = true) : (Instr.checkKey em (n + 1) t v).run P w = .ok () w := by
  cases k <;> simp only [skT] at h <;> split at h <;> simp at h <;> rename_i hu <;> simp [Instr.checkKey, run_underlying hu]

def checkFields (em : Bool) (n : Nat) (cs : Array Value) : List Field → Sem Unit
  | [] => pure ()
  | f :: fs => if f.name ≠ "_" then do
      let v ← part f.type cs f.offset
      Instr.checkKey em n f.type v
      checkFields em n cs fs
    else checkFields em n cs fs

theorem checkKey_struct {t : TypeId} {fs : Array Field} {em : Bool} {n : Nat} {cs : Array Value} (hu : P.underlying t = some (.struct fs)) (w : World) :
    (Instr.checkKey em (n + 1) t (.agg cs)).run P w = (checkFields em n cs fs.toList).run P w := by
  simp only [Instr.checkKey, Sem.run_bind, run_underlying hu, Result.andThen_ok]
  rw [← Array.forIn_toList]
  generalize fs.toList = l
  clear hu
  induction l generalizing w with
  | nil => simp [checkFields]
  | cons f l ih =>
    simp only [List.forIn_cons, checkFields, Sem.run_bind, Sem.run_ite]
    split
    · generalize (part f.type cs f.offset).run P w = r1
      cases r1 with
      | ok a w1 =>
        simp only [Result.andThen_ok]
        generalize (Instr.checkKey em n f.type a).run P w1 = r2
        cases r2 with
        | ok b w2 =>
          simp only [Result.andThen_ok, Sem.run_pure]
          exact ih w2
        | halt x w2 => simp [Result.andThen]
      | halt x w1 => simp [Result.andThen]
    · simp only [Sem.run_pure, Result.andThen_ok]
      exact ih w

theorem checkFields_run {n : Nat} {em : Bool} {rs : Array Value} : ∀ (ks : List SK) (fs : List Field) (i : Nat), flatFields P i fs ks = true → i + ks.length ≤ rs.size →
    (checkFields em (n + 1) rs fs).run P w = .ok () w
  | [], fs, i, hf, hl => by
    cases fs <;> simp [flatFields] at hf
    simp [checkFields]
  | k :: ks, fs, i, hf, hl => by
    cases fs with
    | nil => simp [flatFields] at hf
    | cons f fs =>
      simp only [flatFields, Bool.and_eq_true, decide_eq_true_eq] at hf
      obtain ⟨⟨⟨h1, h2⟩, h3⟩, h4⟩ := hf
      have ih := checkFields_run (n := n) (em := em) (rs := rs) ks fs (i + 1) h4 (by simp at hl; omega)
      have hi : f.offset < rs.size := by rw [h1]; simp at hl; omega
      have hp := run_part_one (w := w) h3 (Array.getElem?_eq_getElem hi)
      simp only [checkFields, ne_eq, h2, not_false_eq_true, if_true, Sem.run_bind, hp, Result.andThen_ok, sk_checkKey h3, ih]

theorem checkKey_run {t : TypeId} {kk : KK} {a : AV} {ra : Value} {em : Bool} (hT : keyT P t kk = true) (ha : VR m w a ra) (hk : keyOK kk a = true) : (Instr.checkKey em 10000 t ra).run P w = .ok () w := by
  cases kk with
  | one k => exact sk_checkKey (n := 9999) hT
  | st ks =>
    simp only [keyT, structT] at hT
    split at hT
    · rename_i fs hu
      simp only [Bool.and_eq_true] at hT
      cases ha <;> try (simp [keyOK] at hk; done)
      rename_i cs rs hl hv
      simp only [keyOK, Bool.and_eq_true, decide_eq_true_eq] at hk
      have h1 := checkKey_struct (P := P) (em := em) (n := 9999) (cs := rs.toArray) hu w
      have h2 := checkFields_run (P := P) (w := w) (n := 9998) (em := em) (rs := rs.toArray) ks fs.toList 0 hT.1.1 (by simp; omega)
      exact h1.trans h2
    · simp at hT

theorem findNow_run {t : TypeId} {d : TypeDesc} {k : SK} {a : AV} {ra : Value} (hd : P.underlying t = some d) (hT : skT P t k = true) (ha : VR m w a ra) : ∀ (es : List (AV × AV)) (ms : List MapEntry) (i : Nat) (r : Option Nat),
    VRL m w (es.map (·.1)) (ms.map (·.key)) → mapFind (.one k) a es = some r → Instr.findNow d ra ms i = some (r.map fun j => (i + j, (ms.getD j default).val))
  | [], ms, i, r, hl, h => by
    have : ms = [] := by have := hl.1; simp at this; exact List.eq_nil_of_length_eq_zero (by omega)
    subst this
    simp [mapFind] at h; subst h
    simp [Instr.findNow]
  | (x, y) :: es, ms, i, r, hl, h => by
    cases ms with
    | nil => have := hl.1; simp at this
    | cons e ms =>
      simp only [mapFind, Option.bind_eq_some_iff] at h
      obtain ⟨b, h1, h2⟩ := h
      have hx : VR m w x e.key := hl.2 0 x e.key rfl rfl
      have hs : Instr.sameNow d ra e.key = some b := by
        simp only [keyEq] at h1
        cases k <;> simp only [skT, hd] at hT <;> split at hT <;> simp at hT <;> rename_i hu <;> simp at hu <;> subst hu <;> cases ha <;> try (simp [eqOne] at h1; done)
        all_goals (generalize e.key = ek at hx; cases hx <;> simp [eqOne] at h1)
        · obtain ⟨rfl, h1⟩ := h1; simp [Instr.sameNow]; rw [← h1]; rfl
        · simp [Instr.sameNow, h1]; rw [← h1]; rfl
        · simp [Instr.sameNow, beq_toListBytes, ByteArray.toList_eq]; rw [← h1]; exact Bool.eq_iff_iff.2 (by simp)
      have ih := findNow_run hd hT ha es ms (i + 1)
      cases b with
      | true => simp at h2; subst h2; simp [Instr.findNow, hs]
      | false =>
        simp only [Bool.false_eq_true, if_false, Option.map_eq_some_iff] at h2
        obtain ⟨r', h3, rfl⟩ := h2
        have := ih r' ⟨by have := hl.1; simpa using this, fun j u v hx hy => hl.2 (j + 1) u v (by simpa using hx) (by simpa using hy)⟩ h3
        simp only [Instr.findNow, hs, this]
        cases r' <;> simp
        omega

theorem findAsking_run {t : TypeId} {kk : KK} {a : AV} {ra : Value} (hT : keyT P t kk = true) (ha : VR m w a ra) : ∀ (es : List (AV × AV)) (ms : List MapEntry) (i : Nat) (r : Option Nat),
    VRL m w (es.map (·.1)) (ms.map (·.key)) → mapFind kk a es = some r → (Instr.findAsking t ra ms i).run P w = .ok (r.map fun j => (i + j, (ms.getD j default).val)) w
  | [], ms, i, r, hl, h => by
    have : ms = [] := by have := hl.1; simp at this; exact List.eq_nil_of_length_eq_zero (by omega)
    subst this
    simp [mapFind] at h; subst h
    simp [Instr.findAsking]
  | (x, y) :: es, ms, i, r, hl, h => by
    cases ms with
    | nil => have := hl.1; simp at this
    | cons e ms =>
      simp only [mapFind, Option.bind_eq_some_iff] at h
      obtain ⟨b, h1, h2⟩ := h
      have hx : VR m w x e.key := hl.2 0 x e.key rfl rfl
      have hs := keyEq_run (w := w) hT ha hx h1
      have ih := findAsking_run hT ha es ms (i + 1)
      cases b with
      | true => simp at h2; subst h2; simp [Instr.findAsking, hs]
      | false =>
        simp only [Bool.false_eq_true, if_false, Option.map_eq_some_iff] at h2
        obtain ⟨r', h3, rfl⟩ := h2
        have := ih r' ⟨by have := hl.1; simpa using this, fun j u v hx hy => hl.2 (j + 1) u v (by simpa using hx) (by simpa using hy)⟩ h3
        simp only [Instr.findAsking, Sem.run_bind, hs, Result.andThen_ok, Bool.false_eq_true, if_false, this]
        cases r' <;> simp
        omega

theorem findKey_run {t : TypeId} {kk : KK} {a : AV} {ra : Value} (hT : keyT P t kk = true) (ha : VR m w a ra) {es : List (AV × AV)} {ms : List MapEntry} {r : Option Nat}
    (hl : VRL m w (es.map (·.1)) (ms.map (·.key))) (h : mapFind kk a es = some r) : (Instr.findKey t ra ms).run P w = .ok (r.map fun j => (j, (ms.getD j default).val)) w := by
  cases kk with
  | one k =>
    have hd : ∃ d, P.underlying t = some d := by
      simp only [keyT] at hT
      cases k <;> simp only [skT] at hT <;> split at hT <;> simp at hT <;> exact ⟨_, by assumption⟩
    obtain ⟨d, hd⟩ := hd
    have := findNow_run hd hT ha es ms 0 r hl h
    simp only [Nat.zero_add] at this
    simp [Instr.findKey, run_underlying hd, this]
  | st ks =>
    have hw' : (match P.underlying t with | some (.array _ _) | some (.struct _) => true | _ => false) = true := by
      simp only [keyT, structT] at hT
      split at hT <;> simp_all
    rw [run_findKey_eq w hw']
    have := findAsking_run hT ha es ms 0 r hl h
    simpa using this

theorem okV_sound {zero : AV} {ok : Bool} {rz : Value} {r : Option AV} {rr : Option Value} (hz : VR m w zero rz) (hr : match r, rr with | none, none => True | some v, some u => VR m w v u | _, _ => False) :
    VR m w (okV zero ok r) (if ok then .tuple #[rr.getD rz, .bool rr.isSome] else rr.getD rz) := by
  have hv : VR m w (r.getD zero) (rr.getD rz) := by
    cases r <;> cases rr <;> simp at hr ⊢ <;> first | exact hz | exact hr
  have hb : r.isSome = rr.isSome := by cases r <;> cases rr <;> simp at hr ⊢
  cases ok
  · simpa [okV] using hv
  · simp only [okV, if_true]
    have := ((VRL.nil m w).cons (.bool r.isSome)).cons hv
    rw [hb] at this
    rw [hb]
    exact .tup _ _ this.1 this.2

theorem lookupE_sound {T kt et : TypeId} {kk : KK} {zero : AV} {ok : Bool} {a k v : AV} {ra rk : Value} (hw : WRel m H w) (ha : VR m w a ra) (hk : VR m w k rk) (hT : P.underlying T = some (.map kt et))
    (hkt : keyT P kt kk = true) (hz : zeroIs P et zero = true) (h : lookupE H kk zero ok a k = some v) : Fits P m H w (Instr.lookup T ra rk ok) v := by
  obtain ⟨iz, z, hi, hz1, hz2⟩ := zeroIs_some hz
  have hzv : VR m w zero z := chkV_sound _ _ hz2
  cases ha with
  | nilm =>
    simp only [lookupE] at h
    split at h <;> simp at h
    rename_i hok
    subst h
    refine .same hw ?_ (okV_sound (rr := none) hzv trivial)
    have hf : (Instr.findKey kt rk []).run P w = .ok none w := by
      have := findKey_run (es := []) (ms := []) hkt hk (VRL.nil m w) rfl
      simpa using this
    simp [Instr.lookup, run_underlying hT, checkKey_run hkt hk hok, hf, run_zeroIs hi hz1]
  | map id blk hb =>
    simp only [lookupE] at h
    split at h
    · rename_i es hH
      obtain ⟨_, ⟨ms, ck, hm, hks, hvs, _⟩, _⟩ : ObjR m w (.mp es) (.obj blk) := hw.obj id _ _ hH hb
      split at h <;> simp at h
      rename_i hok
      obtain ⟨r, h1, rfl⟩ := h
      simp only [mapGet, Option.bind_eq_some_iff] at h1
      obtain ⟨ri, h2, h3⟩ := h1
      have hf := findKey_run (ms := ms.toList) hkt hk hks h2
      cases ri with
      | none =>
        simp at h3; subst h3
        refine .same hw ?_ (okV_sound (rr := none) hzv trivial)
        simp at hf
        simp [Instr.lookup, run_underlying hT, getObj, Sem.run, hm, checkKey_run hkt hk hok, hf, run_zeroIs hi hz1]
      | some j =>
        simp only [Option.map_eq_some_iff] at h3
        obtain ⟨x, h4, rfl⟩ := h3
        have hj : j < ms.toList.length := by
          have := (List.getElem?_eq_some_iff.1 h4).1
          have := hvs.1; simp at this; simp; omega
        have hvr : VR m w x.2 (ms.toList[j]).val := hvs.2 j _ _ (by simp [h4]) (by simp only [List.getElem?_map, List.getElem?_eq_getElem hj, Option.map_some])
        refine .same hw ?_ (okV_sound (rr := some (ms.toList[j]).val) hzv hvr)
        simp only [Option.map_some] at hf
        rw [List.getD_eq_getElem?_getD, List.getElem?_eq_getElem hj] at hf
        simp only [Option.getD_some] at hf
        simp [Instr.lookup, run_underlying hT, getObj, Sem.run, hm, checkKey_run hkt hk hok, hf]
    · simp at h
  | _ => simp [lookupE] at h

end Go.Lim
