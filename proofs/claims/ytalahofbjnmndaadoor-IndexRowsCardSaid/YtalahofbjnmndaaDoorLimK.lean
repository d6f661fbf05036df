/- The E machine: when a resolved operation is the code's, and that it is sound. -/
import Derived.Test.YtalahofbjnmndaaDoorLimJ
set_option linter.unusedVariables false
set_option linter.unusedSimpArgs false
namespace Go.Lim
open Go.RowKit
variable {P : Program} {m : Em} {H : Heap} {w : World} {cx : Cx} {e : Env} {ρ : Operand → Value}

def uInt (P : Program) (t : TypeId) (k : IntKind) : Bool := match P.underlying t with | some (.int l) => decide (k = l) | _ => false
def uStr (P : Program) (t : TypeId) : Bool := match P.underlying t with | some .string => true | _ => false
def uBool (P : Program) (t : TypeId) : Bool := match P.underlying t with | some .bool => true | _ => false
def uAny (P : Program) (t : TypeId) : Bool := (P.underlying t).isSome
def uSlc (P : Program) (t e : TypeId) : Bool := match P.underlying t with | some (.slice e') => decide (e' = e) | _ => false
def uBytes (P : Program) (t : TypeId) : Bool := match P.underlying t with | some (.slice e) => uInt P e .u8 | _ => false
def aggIs (P : Program) (t : TypeId) (ag : Bool) : Bool := decide (isAggT P t = some ag)
def bop (neg : Bool) (op : BinOp) : Bool := match neg, op with | true, .neq => true | false, .eql => true | _, _ => false

theorem uInt_some {t : TypeId} {k : IntKind} (h : uInt P t k = true) : P.underlying t = some (.int k) := by
  unfold uInt at h; split at h <;> simp at h; subst h; assumption
theorem uStr_some {t : TypeId} (h : uStr P t = true) : P.underlying t = some .string := by
  unfold uStr at h; split at h <;> simp at h; assumption
theorem uBool_some {t : TypeId} (h : uBool P t = true) : P.underlying t = some .bool := by
  unfold uBool at h; split at h <;> simp at h; assumption
theorem uAny_some {t : TypeId} (h : uAny P t = true) : ∃ d, P.underlying t = some d := by
  unfold uAny at h; exact Option.isSome_iff_exists.1 h
theorem uSlc_some {t e : TypeId} (h : uSlc P t e = true) : P.underlying t = some (.slice e) := by
  unfold uSlc at h; split at h <;> simp at h; subst h; assumption
theorem uBytes_some {t : TypeId} (h : uBytes P t = true) : ∃ e, P.underlying t = some (.slice e) ∧ P.underlying e = some (.int .u8) := by
  unfold uBytes at h; split at h <;> try (simp at h; done)
  rename_i e he; exact ⟨e, he, uInt_some h⟩
theorem aggIs_some {t : TypeId} {ag : Bool} (h : aggIs P t ag = true) : isAggT P t = some ag := by simpa [aggIs] using h
theorem bop_some {neg : Bool} {op : BinOp} (h : bop neg op = true) : op = (if neg then .neq else .eql) := by
  cases neg <;> cases op <;> simp [bop] at h ⊢

def slOf (P : Program) (t : TypeId) : Option TypeId := match P.underlying t with | some (.slice e) => some e | _ => none

/-- Is the resolved operation the code's? -/
def chkOp (P : Program) : Op → EOp → Bool
  | .move x, .mv y => chkX x y
  | .assign x, .mv y => chkX x y
  | .pick c a b, .pick c' a' b' => chkX c c' && chkX a a' && chkX b b'
  | .build t ps, .build zero qs => zeroIs P t (.agg zero) && placesOK P t && chkParts P t ps.toList qs
  | .buildSlice t n ps, .bslice zero sz len qs => decide (n = len) && (match slOf P t with | some e => bsT P t e sz len zero | none => false) && chkElems ps.toList qs
  | .load t a, .load ag n x => sizeIs P t n && aggIs P t ag && chkX a x
  | .nilCheck a, .nilck x => chkX a x
  | .binOp op t a b _, .bin op' x y => decide (op = op') && chkX a x && chkX b y
  | .binOp op t a b _, .eqb neg x y => bop neg op && uBool P t && chkX a x && chkX b y
  | .binOp op t a (.const c) _, .eqnil k neg x => bop neg op && nilT P t k c && chkX a x
  | .binOp op t a b _, .eqs ks neg x y => bop neg op && structT P t ks && chkX a x && chkX b y
  | .unOp op _ a, .un op' x => decide (op = op') && chkX a x
  | .convert s d a, .i2i k x => uAny P s && uInt P d k && chkX a x
  | .convert s d a, .s2b x => uStr P s && uBytes P d && chkX a x
  | .convert s d a, .b2s x => uBytes P s && uStr P d && chkX a x
  | .convert s d a, .idc x => uAny P s && uStr P d && chkX a x
  | .makeFunc (.func f) first caps, .mkfn g xs => decide (f = g) && first.isEmpty && chkXs caps.toList xs
  | .slice t a lo hi none, .slstr x l h => uStr P t && chkX a x && chkXo lo l && chkXo hi h
  | .slice t a lo hi none, .slslc sz x l h => (match slOf P t with | some e => sizeIs P e sz | none => false) && chkX a x && chkXo lo l && chkXo hi h
  | .fieldAddr t a f, .faddr off x => (match P.underlying t with | some (.struct fs) => (match fs[f]? with | some q => decide (q.offset = off) && (match P.info? q.type with | some i => decide (0 < i.size) | none => false) | none => false) | _ => false) && chkX a x
  | .field t a f, .field off n ag x => (match P.underlying t with | some (.struct fs) => (match fs[f]? with | some q => decide (q.offset = off) && sizeIs P q.type n && aggIs P q.type ag | none => false) | _ => false) && chkX a x
  | .indexAddr t a i, .iaddr sz x y => (match slOf P t with | some e => sizeIs P e sz | none => false) && chkX a x && chkX i y
  | .indexAddr t a i, .iaddra len sz x y => (match P.underlying t with | some (.array n e) => decide (n = len) && sizeIs P e sz | _ => false) && chkX a x && chkX i y
  | .index t a i, .idxa len sz ag x y => (match P.underlying t with | some (.array n e) => decide (n = len) && sizeIs P e sz && aggIs P e ag | _ => false) && chkX a x && chkX i y
  | .index t a i, .idxs x y => uStr P t && chkX a x && chkX i y
  | .lookup t a k ok, .lookup kk zero ok' x y => (match P.underlying t with | some (.map kt et) => keyT P kt kk && zeroIs P et zero | _ => false) && (ok == ok') && chkX a x && chkX k y
  | .extract a n, .extract n' x => decide (n = n') && chkX a x
  | .makeInterface t a, .mkifc t' x => decide (t = t') && (match P.underlying t with | some (.interface _) => false | some _ => true | none => false) && chkX a x
  | .call { callee := .builtin .len, args := ⟨[a]⟩, argTypes := ⟨[t]⟩ }, .len k x => lenT P t k && chkX a x
  | .call { callee := .builtin .max, args := as, argTypes := _ }, .mx false xs => chkXs as.toList xs
  | .call { callee := .builtin .min, args := as, argTypes := _ }, .mx true xs => chkXs as.toList xs
  | .call { callee := .builtin .complex, args := ⟨[a, b]⟩, argTypes := _ }, .cpxmk x y => chkX a x && chkX b y
  | .call { callee := .builtin .real, args := ⟨[a]⟩, argTypes := _ }, .cpxre false x => chkX a x
  | .call { callee := .builtin .imag, args := ⟨[a]⟩, argTypes := _ }, .cpxre true x => chkX a x
  | .alloc t, .alloc zero => (match P.info? t with | some i => (match i.zero with | some z => chkVL zero z.cells.toList | none => false) | none => false)
  | .box _ a, .box x => chkX a x
  | .store t a v, .store n x y => sizeIs P t n && chkX a x && chkX v y
  | .makeSlice t l c, .mkslice zero sz bytes x y => (match slOf P t with | some e => appT P t e sz bytes && zeroIs P e zero | none => false) && chkX l x && chkX c y
  | .makeMap _ none, .mkmap => true
  | .mapUpdate t a k v, .mapupd kk x y z => (match P.underlying t with | some (.map kt _) => keyT P kt kk | _ => false) && chkX a x && chkX k y && chkX v z
  | .insert t a k v, .mapupd kk x y z => (match P.underlying t with | some (.map kt _) => keyT P kt kk | _ => false) && chkX a x && chkX k y && chkX v z
  | .mapEntry t a k, .mapent kk zero x y => (match P.underlying t with | some (.map kt et) => keyT P kt kk && zeroIs P et zero | _ => false) && chkX a x && chkX k y
  | .entryStore _ a t v, .entst x y z => chkX a x && chkX t y && chkX v z
  | .call { callee := .builtin .append, args := ⟨[a, b]⟩, argTypes := ⟨[t, t']⟩ }, .appstr bytes x y => uStr P t' && (match slOf P t with | some e => appT P t e 1 bytes | none => false) && chkX a x && chkX b y
  | .call { callee := .builtin .append, args := ⟨[a, b]⟩, argTypes := ⟨[t, t']⟩ }, .append sz bytes x y => decide (t = t') && (match slOf P t with | some e => appT P t e sz bytes | none => false) && chkX a x && chkX b y
  | .call { callee := .value f, args := as, argTypes := _ }, .call x ys => chkX f x && chkXs as.toList ys
  | _, _ => false

theorem slOf_some {t e : TypeId} (h : slOf P t = some e) : P.underlying t = some (.slice e) := by
  unfold slOf at h; split at h <;> simp at h; subst h; assumption

theorem optR (hX : XR cx m w e ρ) {x : Option Operand} {y : Option EX} {v : Option AV} (hc : chkXo x y = true) (hv : evo cx e y = some v) : OptR m w v (x.map ρ) := by
  cases x <;> cases y <;> simp [chkXo] at hc
  · simp [evo] at hv; subst hv; trivial
  · simp only [evo, Option.bind_eq_some_iff] at hv
    obtain ⟨u, h1, h2⟩ := hv
    simp at h2; subst h2
    exact hX _ _ _ hc h1

/-- The outcome of an operation as the machine's next. -/
def NFits (P : Program) (m : Em) (H : Heap) (w : World) (s : Sem Next) (v : AV) (H' : Heap) : Prop :=
  ∃ r m' w', (s.run P w = .ok (.value r) w' ∨ (s.run P w = .ok .skip w' ∧ r = undef)) ∧ VR m' w' v r ∧ Le m w m' w' ∧ WRel m' H' w' ∧ Pend m H m' H'

theorem HFits.n {s : Sem Value} {v : AV} {H' : Heap} (h : HFits P m H w s v H') : NFits P m H w (do pure (.value (← s))) v H' := by
  obtain ⟨r, m', w', h1, h2⟩ := h
  exact ⟨r, m', w', .inl (by simp [h1]), h2⟩
theorem Fits.n {s : Sem Value} {v : AV} (h : Fits P m H w s v) : NFits P m H w (do pure (.value (← s))) v H := h.h.n
theorem NFits.pure {v : AV} {r : Value} (hw : WRel m H w) (hv : VR m w v r) : NFits P m H w (pure (.value r)) v H :=
  ⟨r, m, w, .inl (by simp), hv, .refl m w, hw, .refl m H⟩

theorem NFits.val {v : AV} {r : Value} {s : Sem Next} (hw : WRel m H w) (hs : s.run P w = .ok (.value r) w) (hv : VR m w v r) : NFits P m H w s v H :=
  ⟨r, m, w, .inl hs, hv, .refl m w, hw, .refl m H⟩

set_option maxHeartbeats 2000000 in
theorem pop_sound (hw : WRel m H w) (hX : XR cx m w e ρ) (hρ : ∀ c, ρ (.const c) = c) {o : Oper} {x : EOp} {v : AV} (hc : chkOp P o.op x = true) (hnh : x.isH = false) (h : pop cx e H x = some v) : NFits P m H w (execOp ρ o) v H := by
  obtain ⟨dst, op, type, pos, after, guard⟩ := o
  simp only at hc
  unfold chkOp at hc
  split at hc
  -- move, assign
  · exact .pure hw (hX _ _ _ hc h)
  · exact .pure hw (hX _ _ _ hc h)
  -- pick
  · simp only [Bool.and_eq_true] at hc
    simp only [pop, Option.bind_eq_some_iff] at h
    obtain ⟨u, h1, h2⟩ := h
    have hu := hX _ _ _ hc.1.1 h1
    rename_i c a b c' a' b'
    cases u <;> simp [pickE] at h2
    rename_i t
    generalize hr : ρ c = rc at hu
    cases hu
    cases t
    · simp at h2; exact .val hw (by simp [execOp, hr, asBool]) (hX _ _ _ hc.2 h2)
    · simp at h2; exact .val hw (by simp [execOp, hr, asBool]) (hX _ _ _ hc.1.2 h2)
  -- build
  · simp only [Bool.and_eq_true] at hc
    simp only [pop, Option.bind_eq_some_iff] at h
    obtain ⟨ps, h1, cs, h2, h3⟩ := h
    split at h3 <;> simp at h3
    subst h3
    rename_i t rps zero qs _
    have hp := parts_sound (P := P) (t := t) hX rps.toList qs ps hc.2 h1
    have := buildE_sound (rps := rps.map fun (i, x) => (i, ρ x)) hw hc.1.1 hc.1.2 (by simpa using hp) h2
    exact this.n
  -- bslice
  · simp only [Bool.and_eq_true, decide_eq_true_eq] at hc
    simp only [pop, Option.bind_eq_some_iff] at h
    obtain ⟨ps, h1, h3⟩ := h
    split at h3 <;> try (simp at h3; done)
    simp only [Option.bind_eq_some_iff] at h3
    obtain ⟨es, h2, h3⟩ := h3
    simp at h3
    subst h3
    rename_i t n rps zero sz len qs hall
    obtain ⟨⟨rfl, h4⟩, h5⟩ := hc
    split at h4 <;> try (simp at h4; done)
    rename_i el hel
    have hps : ∀ p ∈ ps, p.2.cells.length = sz := fun p hp => by simpa using List.all_eq_true.1 hall p hp
    have := bsliceE_sound (rps := rps.map fun (i, x) => (i, ρ x)) hw h4 (fun hps => by simpa using elems_sound hX rps.toList qs ps h5 h1 hps) h2 hps
    exact this.n
  -- load
  · simp only [Bool.and_eq_true] at hc
    simp only [pop, Option.bind_eq_some_iff] at h
    obtain ⟨u, h1, h2⟩ := h
    exact (loadE_sound hw hc.1.1 (aggIs_some hc.1.2) (hX _ _ _ hc.2 h1) h2).n
  -- nilck
  · simp only [pop, Option.bind_eq_some_iff] at h
    obtain ⟨u, h1, h2⟩ := h
    rename_i a x
    have hu := hX _ _ _ hc h1
    obtain ⟨h3, h4⟩ := nilckE_sound hu h2
    refine .val hw ?_ h4
    clear hu
    show (execOp ρ ⟨dst, .nilCheck a, type, pos, after, guard⟩).run P w = _
    simp only [execOp]
    generalize ρ a = ra at h3 h4
    cases ra with
    | pointer q => cases q <;> first | (exact h3.elim) | simp
    | nilIface => exact h3.elim
    | nilFunc => exact h3.elim
    | func fn f c => cases fn <;> first | exact h3.elim | simp
    | _ => simp
  -- bin
  · simp only [Bool.and_eq_true, decide_eq_true_eq] at hc
    simp only [pop, Option.bind_eq_some_iff] at h
    obtain ⟨u, h1, u', h2, h3⟩ := h
    obtain ⟨⟨rfl, h4⟩, h5⟩ := hc
    exact (binE_sound hw (hX _ _ _ h4 h1) (hX _ _ _ h5 h2) h3).n
  -- eqb
  · simp only [Bool.and_eq_true] at hc
    simp only [pop, Option.bind_eq_some_iff] at h
    obtain ⟨u, h1, u', h2, h3⟩ := h
    exact (eqbE_sound hw (hX _ _ _ hc.1.2 h1) (hX _ _ _ hc.2 h2) (uBool_some hc.1.1.2) (bop_some hc.1.1.1) h3).n
  -- eqnil
  · simp only [Bool.and_eq_true] at hc
    simp only [pop, Option.bind_eq_some_iff, Option.map_eq_some_iff] at h
    obtain ⟨u, h1, b, h2, rfl⟩ := h
    rename_i op t a c yT k neg x
    have := (eqnilE_sound (x := a) (c := c) hw (hX _ _ _ hc.2 h1) hc.1.2 (bop_some hc.1.1) h2).n
    simpa only [execOp, hρ] using this
  -- eqs
  · simp only [Bool.and_eq_true] at hc
    simp only [pop, Option.bind_eq_some_iff] at h
    obtain ⟨u, h1, u', h2, h3⟩ := h
    exact (eqsE_sound hw (hX _ _ _ hc.1.2 h1) (hX _ _ _ hc.2 h2) hc.1.1.2 (bop_some hc.1.1.1) h3).n
  -- un
  · simp only [Bool.and_eq_true, decide_eq_true_eq] at hc
    simp only [pop, Option.bind_eq_some_iff] at h
    obtain ⟨u, h1, h2⟩ := h
    obtain ⟨rfl, h3⟩ := hc
    exact (unE_sound hw (hX _ _ _ h3 h1) h2).n
  -- i2i
  · simp only [Bool.and_eq_true] at hc
    simp only [pop, Option.bind_eq_some_iff] at h
    obtain ⟨u, h1, h2⟩ := h
    obtain ⟨d, hd⟩ := uAny_some hc.1.1
    exact (i2iE_sound hw (hX _ _ _ hc.2 h1) hd (uInt_some hc.1.2) h2).n
  -- s2b
  · simp only [Bool.and_eq_true] at hc
    simp only [pop, Option.bind_eq_some_iff] at h
    obtain ⟨u, h1, h2⟩ := h
    obtain ⟨el, he1, he2⟩ := uBytes_some hc.1.2
    exact (s2bE_sound hw (hX _ _ _ hc.2 h1) (uStr_some hc.1.1) he1 he2 h2).n
  -- b2s
  · simp only [Bool.and_eq_true] at hc
    simp only [pop, Option.bind_eq_some_iff] at h
    obtain ⟨u, h1, h2⟩ := h
    obtain ⟨el, he1, he2⟩ := uBytes_some hc.1.1
    exact (b2sE_sound hw (hX _ _ _ hc.2 h1) he1 (uStr_some hc.1.2) he2 h2).n
  -- idc
  · simp only [Bool.and_eq_true] at hc
    simp only [pop, Option.bind_eq_some_iff] at h
    obtain ⟨u, h1, h2⟩ := h
    obtain ⟨d, hd⟩ := uAny_some hc.1.1
    exact (idcE_sound hw (hX _ _ _ hc.2 h1) hd (uStr_some hc.1.2) h2).n
  -- mkfn
  · simp only [Bool.and_eq_true, decide_eq_true_eq] at hc
    simp only [pop, Option.bind_eq_some_iff] at h
    obtain ⟨vs, h1, h2⟩ := h
    simp at h2; subst h2
    rename_i f first caps g xs
    obtain ⟨⟨rfl, h3⟩, h4⟩ := hc
    have h3' : first = #[] := by simpa using h3
    subst h3'
    have hl := hX.list caps.toList xs vs h4 h1
    refine .val hw (r := .func (.func f) #[] (caps.toList.map ρ).toArray) ?_ (.fn f vs _ hl.1 hl.2)
    have : (caps.toList.map ρ).toArray = caps.map ρ := by rw [← Array.toList_map, Array.toArray_toList]
    rw [this]
    simp [execOp, Instr.makeFunc]
  -- slstr
  · simp only [Bool.and_eq_true] at hc
    simp only [pop, Option.bind_eq_some_iff] at h
    obtain ⟨u, h1, l, h2, hh, h3, h4⟩ := h
    exact (slstrE_sound hw (hX _ _ _ hc.1.1.2 h1) (optR hX hc.1.2 h2) (optR hX hc.2 h3) (uStr_some hc.1.1.1) h4).n
  -- slslc
  · simp only [Bool.and_eq_true] at hc
    simp only [pop, Option.bind_eq_some_iff] at h
    obtain ⟨u, h1, l, h2, hh, h3, h4⟩ := h
    obtain ⟨⟨⟨h5, h6⟩, h7⟩, h8⟩ := hc
    split at h5 <;> try (simp at h5; done)
    rename_i el hel
    exact (slslcE_sound hw (hX _ _ _ h6 h1) (optR hX h7 h2) (optR hX h8 h3) (slOf_some hel) h5 h4).n
  -- faddr
  · simp only [Bool.and_eq_true] at hc
    simp only [pop, Option.bind_eq_some_iff] at h
    obtain ⟨u, h1, h2⟩ := h
    obtain ⟨h5, h6⟩ := hc
    split at h5 <;> try (simp at h5; done)
    rename_i fs hfs
    split at h5 <;> try (simp at h5; done)
    rename_i q hq
    simp only [Bool.and_eq_true, decide_eq_true_eq] at h5
    obtain ⟨h7, h8⟩ := h5
    split at h8 <;> try (simp at h8; done)
    rename_i i hi
    simp only [decide_eq_true_eq] at h8
    have hsz : sizeIs P q.type (i.size - 1 + 1) = true := by
      unfold sizeIs; rw [hi]; simp only [decide_eq_true_eq]; omega
    exact (faddrE_sound hw (hX _ _ _ h6 h1) hfs hq h7 hsz h2).n
  -- field
  · simp only [Bool.and_eq_true] at hc
    simp only [pop, Option.bind_eq_some_iff] at h
    obtain ⟨u, h1, h2⟩ := h
    obtain ⟨h5, h6⟩ := hc
    split at h5 <;> try (simp at h5; done)
    rename_i fs hfs
    split at h5 <;> try (simp at h5; done)
    rename_i q hq
    simp only [Bool.and_eq_true, decide_eq_true_eq] at h5
    exact (fieldE_sound hw (hX _ _ _ h6 h1) hfs hq h5.1.1 h5.1.2 (aggIs_some h5.2) h2).n
  -- iaddr
  · simp only [Bool.and_eq_true] at hc
    simp only [pop, Option.bind_eq_some_iff] at h
    obtain ⟨u, h1, u', h2, h3⟩ := h
    obtain ⟨⟨h5, h6⟩, h7⟩ := hc
    split at h5 <;> try (simp at h5; done)
    rename_i el hel
    exact (iaddrE_sound hw (hX _ _ _ h6 h1) (hX _ _ _ h7 h2) (slOf_some hel) h5 h3).n
  -- iaddra
  · simp only [Bool.and_eq_true] at hc
    simp only [pop, Option.bind_eq_some_iff] at h
    obtain ⟨u, h1, u', h2, h3⟩ := h
    obtain ⟨⟨h5, h6⟩, h7⟩ := hc
    split at h5 <;> try (simp at h5; done)
    rename_i n el hel
    simp only [Bool.and_eq_true, decide_eq_true_eq] at h5
    obtain ⟨rfl, h8⟩ := h5
    exact (iaddraE_sound hw (hX _ _ _ h6 h1) (hX _ _ _ h7 h2) hel h8 h3).n
  -- idxa
  · simp only [Bool.and_eq_true] at hc
    simp only [pop, Option.bind_eq_some_iff] at h
    obtain ⟨u, h1, u', h2, h3⟩ := h
    obtain ⟨⟨h5, h6⟩, h7⟩ := hc
    split at h5 <;> try (simp at h5; done)
    rename_i n el hel
    simp only [Bool.and_eq_true, decide_eq_true_eq] at h5
    obtain ⟨⟨rfl, h8⟩, h9⟩ := h5
    exact (idxaE_sound hw (hX _ _ _ h6 h1) (hX _ _ _ h7 h2) hel h8 (aggIs_some h9) h3).n
  -- idxs
  · simp only [Bool.and_eq_true] at hc
    simp only [pop, Option.bind_eq_some_iff] at h
    obtain ⟨u, h1, u', h2, h3⟩ := h
    exact (idxsE_sound hw (hX _ _ _ hc.1.2 h1) (hX _ _ _ hc.2 h2) (uStr_some hc.1.1) h3).n
  -- lookup
  · simp only [Bool.and_eq_true] at hc
    simp only [pop, Option.bind_eq_some_iff] at h
    obtain ⟨u, h1, u', h2, h3⟩ := h
    obtain ⟨⟨⟨h5, h8⟩, h6⟩, h7⟩ := hc
    split at h5 <;> try (simp at h5; done)
    rename_i kt et hkt
    simp only [Bool.and_eq_true] at h5
    have h8' := eq_of_beq h8
    subst h8'
    exact (lookupE_sound hw (hX _ _ _ h6 h1) (hX _ _ _ h7 h2) hkt h5.1 h5.2 h3).n
  -- extract
  · simp only [Bool.and_eq_true, decide_eq_true_eq] at hc
    simp only [pop, Option.bind_eq_some_iff] at h
    obtain ⟨u, h1, h2⟩ := h
    obtain ⟨rfl, h3⟩ := hc
    exact (extractE_sound hw (hX _ _ _ h3 h1) h2).n
  -- mkifc
  · simp only [Bool.and_eq_true, decide_eq_true_eq] at hc
    simp only [pop, Option.bind_eq_some_iff] at h
    obtain ⟨u, h1, h2⟩ := h
    simp at h2; subst h2
    rename_i t a t' x
    obtain ⟨⟨rfl, h3⟩, h4⟩ := hc
    refine .val hw (r := .iface t (ρ a)) ?_ (.ifc _ _ _ (hX _ _ _ h4 h1))
    split at h3 <;> try (simp at h3; done)
    rename_i d hd1 hd2
    simp only [execOp, Instr.makeInterface, Sem.run_bind, run_underlying hd2, Result.andThen_ok]
    cases d <;> first | (exact absurd rfl (hd1 _)) | simp
  -- len
  · simp only [Bool.and_eq_true] at hc
    simp only [pop, Option.bind_eq_some_iff] at h
    obtain ⟨u, h1, h2⟩ := h
    rename_i a t k x
    have := (lenE_sound (P := P) (ty := type) hw (hX _ _ _ hc.2 h1) hc.1 h2).n
    simpa [execOp, resolve, invoke, builtin] using this
  -- max
  · simp only [pop, Option.bind_eq_some_iff] at h
    obtain ⟨vs, h1, h2⟩ := h
    rename_i as ts xs
    have := (mxsE_sound (P := P) (mn := false) (ts := ts) (ty := type) hw (hX.list as.toList xs vs hc h1) h2).n
    rw [← Array.toList_map, Array.toArray_toList] at this
    simpa [execOp, resolve, invoke, builtin] using this
  -- min
  · simp only [pop, Option.bind_eq_some_iff] at h
    obtain ⟨vs, h1, h2⟩ := h
    rename_i as ts xs
    have := (mxsE_sound (P := P) (mn := true) (ts := ts) (ty := type) hw (hX.list as.toList xs vs hc h1) h2).n
    rw [← Array.toList_map, Array.toArray_toList] at this
    simpa [execOp, resolve, invoke, builtin] using this
  -- complex
  · simp only [Bool.and_eq_true] at hc
    simp only [pop, Option.bind_eq_some_iff] at h
    obtain ⟨u, h1, u', h2, h3⟩ := h
    rename_i a b ts x y
    have := (cpxmkE_sound (P := P) (ts := ts) (ty := type) hw (hX _ _ _ hc.1 h1) (hX _ _ _ hc.2 h2) h3).n
    simpa [execOp, resolve, invoke, builtin] using this
  -- real, imag
  · simp only [pop, Option.bind_eq_some_iff] at h
    obtain ⟨u, h1, h2⟩ := h
    rename_i a ts x
    have := (cpxreE_sound (P := P) (im := false) (ts := ts) (ty := type) hw (hX _ _ _ hc h1) h2).n
    simpa [execOp, resolve, invoke, builtin] using this
  · simp only [pop, Option.bind_eq_some_iff] at h
    obtain ⟨u, h1, h2⟩ := h
    rename_i a ts x
    have := (cpxreE_sound (P := P) (im := true) (ts := ts) (ty := type) hw (hX _ _ _ hc h1) h2).n
    simpa [execOp, resolve, invoke, builtin] using this
  all_goals first | (simp [EOp.isH] at hnh; done) | (simp at hc; done)

/-! ### calls -/
/-- What a call leaves. -/
def Outc (m : Em) (H : Heap) (w : World) (v : AV) (H' : Heap) (r : Value) (w' : World) : Prop := ∃ m', VR m' w' v r ∧ Le m w m' w' ∧ WRel m' H' w' ∧ Pend m H m' H'
/-- The call comes to that answer, whatever the tape says. -/
def Sim (P : Program) (gl : Nat → Option (List AV)) (k : FuncId) (vs : List AV) (H : Heap) (v : AV) (H' : Heap) : Prop :=
  ∀ m w rs, WRel m H w → GlR m w gl → VRL m w vs rs →
    ((callFunc k rs.toArray).run P w = .ok (.enter k rs.toArray) w ∧ Calls P k rs.toArray w fun e w' => ∃ r, e = .returned r ∧ Outc m H w v H' r w') ∨
    ∃ r w', (callFunc k rs.toArray).run P w = .ok (.value r) w' ∧ Outc m H w v H' r w'
def CxOK (P : Program) (cx : Cx) : Prop := ∀ k vs H v H' s, cx.call k vs H = some (v, H', s) → Sim P cx.gl k vs H v H'

/-- The outcome of an operation, a call or not. -/
def OpOut (P : Program) (m : Em) (H : Heap) (w : World) (s : Sem Next) (v : AV) (H' : Heap) : Prop :=
  (∃ r w', (s.run P w = .ok (.value r) w' ∨ (s.run P w = .ok .skip w' ∧ r = undef)) ∧ Outc m H w v H' r w') ∨
  ∃ k rs, s.run P w = .ok (.enter k rs) w ∧ Calls P k rs w fun e w' => ∃ r, e = .returned r ∧ Outc m H w v H' r w'

theorem NFits.out {s : Sem Next} {v : AV} {H' : Heap} (h : NFits P m H w s v H') : OpOut P m H w s v H' := by
  obtain ⟨r, m', w', h1, h2, h3, h4, h5⟩ := h
  exact .inl ⟨r, w', h1, m', h2, h3, h4, h5⟩

set_option maxHeartbeats 2000000 in
theorem hop_sound (hw : WRel m H w) (hX : XR cx m w e ρ) (hρ : ∀ c, ρ (.const c) = c) (hG : GlR m w cx.gl) (hcx : CxOK P cx) {o : Oper} {x : EOp} {v : AV} {H' : Heap} {s : Esc} (hc : chkOp P o.op x = true) (hh : x.isH = true)
    (h : hop cx e H x = some (v, H', s)) : OpOut P m H w (execOp ρ o) v H' := by
  obtain ⟨dst, op, type, pos, after, guard⟩ := o
  simp only at hc
  unfold chkOp at hc
  split at hc <;> try (simp [EOp.isH] at hh; done)
  -- alloc
  · rename_i t zero
    simp only [hop] at h
    split at h <;> simp at h
    obtain ⟨rfl, rfl, rfl⟩ := h
    split at hc <;> try (simp at hc; done)
    rename_i i hi
    split at hc <;> try (simp at hc; done)
    rename_i z hz
    have hv := chkVL_sound (m := m) (w := w) _ _ hc
    obtain ⟨m', h1, h2, h3, h4⟩ := new_box (w' := w.alloc (.cells z.cells t)) (E := t) hw rfl rfl rfl rfl hv
    refine .inl ⟨.pointer (some ⟨w.heap.size, 0, none⟩), w.alloc (.cells z.cells t), .inl ?_, m', .ptr _ _ _ h1, h2, h3, h4⟩
    simp [execOp, Instr.alloc, run_zeroIs hi hz, newVar, newRow, newObj, Sem.run]
  -- box
  · rename_i t a x
    simp only [hop, Option.bind_eq_some_iff] at h
    obtain ⟨u, h1, h2⟩ := h
    split at h2 <;> simp at h2
    obtain ⟨rfl, rfl, rfl⟩ := h2
    exact (boxE_sound (P := P) (T := t) hw (hX _ _ _ hc h1)).n.out
  -- store
  · simp only [Bool.and_eq_true] at hc
    simp only [hop, Option.bind_eq_some_iff] at h
    obtain ⟨u, h1, u', h2, h3⟩ := h
    obtain ⟨m', w', h4, rfl, h5, h6, h7⟩ := storeE_sound (P := P) hw (hX _ _ _ hc.1.2 h1) (hX _ _ _ hc.2 h2) hc.1.1 h3
    exact .inl ⟨undef, w', .inr ⟨by simp [execOp, h4], rfl⟩, m', undf_VR _ _, h5, h6, h7⟩
  -- mkslice
  · simp only [Bool.and_eq_true] at hc
    simp only [hop, Option.bind_eq_some_iff] at h
    obtain ⟨u, h1, u', h2, h3⟩ := h
    obtain ⟨⟨h5, h6⟩, h7⟩ := hc
    split at h5 <;> try (simp at h5; done)
    rename_i el hel
    simp only [Bool.and_eq_true] at h5
    exact (mksliceE_sound (P := P) hw (hX _ _ _ h6 h1) (hX _ _ _ h7 h2) h5.1 h5.2 h3).n.out
  -- mkmap
  · simp only [hop] at h
    simp at h
    obtain ⟨rfl, rfl, rfl⟩ := h
    have := (mkmapE_sound (P := P) (T := by assumption) hw).n.out
    simpa [execOp] using this
  -- mapupd
  · simp only [Bool.and_eq_true] at hc
    simp only [hop, Option.bind_eq_some_iff] at h
    obtain ⟨u, h1, u', h2, u'', h3, h4⟩ := h
    obtain ⟨⟨⟨h5, h6⟩, h7⟩, h8⟩ := hc
    split at h5 <;> try (simp at h5; done)
    rename_i kt et hkt
    obtain ⟨m', w', h9, rfl, h10, h11, h12⟩ := mapupdE_sound (P := P) hw (hX _ _ _ h6 h1) (hX _ _ _ h7 h2) (hX _ _ _ h8 h3) hkt h5 h4
    exact .inl ⟨undef, w', .inr ⟨by simp [execOp, h9], rfl⟩, m', undf_VR _ _, h10, h11, h12⟩
  · simp only [Bool.and_eq_true] at hc
    simp only [hop, Option.bind_eq_some_iff] at h
    obtain ⟨u, h1, u', h2, u'', h3, h4⟩ := h
    obtain ⟨⟨⟨h5, h6⟩, h7⟩, h8⟩ := hc
    split at h5 <;> try (simp at h5; done)
    rename_i kt et hkt
    obtain ⟨m', w', h9, rfl, h10, h11, h12⟩ := mapupdE_sound (P := P) hw (hX _ _ _ h6 h1) (hX _ _ _ h7 h2) (hX _ _ _ h8 h3) hkt h5 h4
    exact .inl ⟨undef, w', .inr ⟨by simp [execOp, h9], rfl⟩, m', undf_VR _ _, h10, h11, h12⟩
  -- mapent
  · simp only [Bool.and_eq_true] at hc
    simp only [hop, Option.bind_eq_some_iff] at h
    obtain ⟨u, h1, u', h2, h4⟩ := h
    obtain ⟨⟨h5, h6⟩, h7⟩ := hc
    split at h5 <;> try (simp at h5; done)
    rename_i kt et hkt
    simp only [Bool.and_eq_true] at h5
    exact (mapentE_sound (P := P) hw (hX _ _ _ h6 h1) (hX _ _ _ h7 h2) hkt h5.1 h5.2 h4).n.out
  -- entst
  · simp only [Bool.and_eq_true] at hc
    simp only [hop, Option.bind_eq_some_iff] at h
    obtain ⟨u, h1, u', h2, u'', h3, h4⟩ := h
    obtain ⟨⟨h6, h7⟩, h8⟩ := hc
    rename_i t0 _ _ _ _ _ _
    obtain ⟨m', w', h9, rfl, h10, h11, h12⟩ := entstE_sound (P := P) (T := t0) hw (hX _ _ _ h6 h1) (hX _ _ _ h7 h2) (hX _ _ _ h8 h3) h4
    exact .inl ⟨undef, w', .inr ⟨by simp [execOp, h9], rfl⟩, m', undf_VR _ _, h10, h11, h12⟩
  -- appstr
  · simp only [Bool.and_eq_true] at hc
    simp only [hop, Option.bind_eq_some_iff] at h
    obtain ⟨u, h1, u', h2, h3⟩ := h
    obtain ⟨⟨⟨h4, h5⟩, h6⟩, h7⟩ := hc
    split at h5 <;> try (simp at h5; done)
    rename_i el hel
    cases u' <;> try (simp [appstrE] at h3; done)
    have := (appstr_sound (P := P) (ty := type) hw (hX _ _ _ h6 h1) (hX _ _ _ h7 h2) h5 (uStr_some h4) h3).n.out
    simpa [execOp, resolve, invoke, builtin] using this
  -- append
  · simp only [Bool.and_eq_true, decide_eq_true_eq] at hc
    simp only [hop, Option.bind_eq_some_iff] at h
    obtain ⟨u, h1, u', h2, h3⟩ := h
    obtain ⟨⟨⟨rfl, h5⟩, h6⟩, h7⟩ := hc
    split at h5 <;> try (simp at h5; done)
    rename_i el hel
    have := (appendE_sound (P := P) (ty := type) hw (hX _ _ _ h6 h1) (hX _ _ _ h7 h2) h5 h3).n.out
    simpa [execOp, resolve, invoke, builtin] using this
  -- call
  · simp only [Bool.and_eq_true] at hc
    simp only [hop, Option.bind_eq_some_iff] at h
    obtain ⟨vs, h1, u, h2, h3⟩ := h
    rename_i f as ts x ys
    have hf := hX _ _ _ hc.1 h2
    have hl := hX.list as.toList ys vs hc.2 h1
    cases u <;> simp only [callE] at h3 <;> try (simp at h3; done)
    rename_i k caps
    have hrun : ∀ rcaps : List Value, ρ f = .func (.func k) #[] rcaps.toArray → (execOp ρ ⟨dst, .call { callee := .value f, args := as, argTypes := ts }, type, pos, after, guard⟩).run P w = (callFunc k (as.toList.map ρ ++ rcaps).toArray).run P w := by
      intro rcaps hr
      have : (as.toList.map ρ ++ rcaps).toArray = as.map ρ ++ rcaps.toArray := by
        apply Array.ext'
        simp
      rw [this]
      simp [execOp, resolve, hr, Deferred.ofValue, invoke]
    generalize hr : ρ f = rf at hf
    cases hf with
    | fn _ _ rcaps hl' hv' =>
      rcases hcx k (vs ++ caps) H v H' s h3 m w (as.toList.map ρ ++ rcaps) hw hG (hl.append ⟨hl', hv'⟩) with ⟨h4, h5⟩ | ⟨r, w', h4, h5⟩
      · exact .inr ⟨k, _, (hrun rcaps hr).trans h4, h5⟩
      · exact .inl ⟨r, w', .inl ((hrun rcaps hr).trans h4), h5⟩
  · simp at hc

end Go.Lim
