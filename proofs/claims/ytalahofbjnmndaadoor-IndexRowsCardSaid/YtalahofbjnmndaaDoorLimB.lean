/- The E machine: how abstract values and heaps stand for the machine's; what stays under steps. -/
import Derived.Test.YtalahofbjnmndaaDoorLimA
set_option linter.unusedVariables false
namespace Go.Lim
open Go.RowKit

inductive Ent where
  | obj (blk : Nat)
  | tk (blk front cap sz : Nat)
  | pend

structure Em where
  B : Nat
  ents : List Ent
  St : Nat → Nat → Prop

def TokOK (ents : List Ent) (tok : Tok) (n tot cap b o : Nat) : Prop :=
  match tok with
  | .nil => False
  | .any => True
  | .full => cap = n
  | .own t => ∃ blk front cap' sz, ents[t]? = some (.tk blk front cap' sz) ∧ tot ≤ front ∧ (tot = front → b = blk ∧ o = 0 ∧ cap = cap')

def NaNBits (k : FloatKind) (b : Nat) : Prop := (k.decode b).isNaN = true
def OB (k : FloatKind) : Option Nat → Nat → Prop
  | some x, b => b = x
  | none, b => NaNBits k b

inductive VR (m : Em) (w : World) : AV → Value → Prop
  | bool (b : Bool) : VR m w (.bool b) (.bool b)
  | int (k : IntKind) (n : Int) : VR m w (.int k n) (.int k n)
  | flt (k : FloatKind) (a : Option Nat) (b : Nat) : OB k a b → VR m w (.flt k a) (.float k b)
  | cpx (k : FloatKind) (a b : Option Nat) (c d : Nat) : OB k a c → OB k b d → VR m w (.cpx k a b) (.complex k c d)
  | str (s : List UInt8) : VR m w (.str s) (.string ⟨s.toArray⟩)
  | ptr (id off blk : Nat) : m.ents[id]? = some (.obj blk) → VR m w (.ptr id off) (.pointer (some ⟨blk, off, none⟩))
  | nilp : VR m w .nilp (.pointer none)
  | rop (cs : List AV) (off b o : Nat) (r : Nat → Value) : (∀ j, j < cs.length → m.St b (o + j) ∧ w.cell? ⟨b, o + j, none⟩ = some (r j)) →
      (∀ (j : Nat) v, cs[j]? = some v → VR m w v (r j)) → VR m w (.rop cs off) (.pointer (some ⟨b, o + off, none⟩))
  | slcN (tk : Tok) : tk = .nil ∨ tk = .any → VR m w (.slc tk []) (.slice none 0 0)
  | slcE (a : Option Addr) (c : Nat) : VR m w (.slc .any []) (.slice a 0 c)
  | slc (tk : Tok) (es : List AV) (b o cap sz : Nat) (r : Nat → Value) : es.length ≤ cap → (∀ e ∈ es, e.cells.length = sz) →
      (∀ j, j < (AV.flat es).length → m.St b (o + j) ∧ w.cell? ⟨b, o + j, none⟩ = some (r j)) →
      (∀ (j : Nat) v, (AV.flat es)[j]? = some v → VR m w v (r j)) → TokOK m.ents tk es.length (AV.flat es).length cap b o →
      VR m w (.slc tk es) (.slice (some ⟨b, o, none⟩) es.length cap)
  | arr (id off len sz : Nat) (ag : Bool) (a : Addr) (cap blk : Nat) : m.ents[id]? = some (.obj blk) → len ≤ cap → (0 < len → a = ⟨blk, off, none⟩) →
      VR m w (.arr id off len sz ag) (.slice (some a) len cap)
  | map (id blk : Nat) : m.ents[id]? = some (.obj blk) → VR m w (.map id) (.map (some blk))
  | nilm : VR m w .nilm (.map none)
  | fn (f : FuncId) (cs : List AV) (rs : List Value) : cs.length = rs.length → (∀ (j : Nat) v r, cs[j]? = some v → rs[j]? = some r → VR m w v r) → VR m w (.fn f cs) (.func (.func f) #[] rs.toArray)
  | nilf : VR m w .nilf .nilFunc
  | ifc (t : TypeId) (v : AV) (r : Value) : VR m w v r → VR m w (.ifc t v) (.iface t r)
  | nili : VR m w .nili .nilIface
  | agg (cs : List AV) (rs : List Value) : cs.length = rs.length → (∀ (j : Nat) v r, cs[j]? = some v → rs[j]? = some r → VR m w v r) → VR m w (.agg cs) (.agg rs.toArray)
  | tup (cs : List AV) (rs : List Value) : cs.length = rs.length → (∀ (j : Nat) v r, cs[j]? = some v → rs[j]? = some r → VR m w v r) → VR m w (.tup cs) (.tuple rs.toArray)

/-- Lists of values. -/
def VRL (m : Em) (w : World) (cs : List AV) (rs : List Value) : Prop :=
  cs.length = rs.length ∧ ∀ (j : Nat) v r, cs[j]? = some v → rs[j]? = some r → VR m w v r

def EntLe : Ent → Ent → Prop
  | .obj b, e => e = .obj b
  | .tk b f c s, e => ∃ b' f' c', e = .tk b' f' c' s ∧ (f < f' ∨ (b' = b ∧ f' = f ∧ c' = c))
  | .pend, _ => True

theorem EntLe.refl (e : Ent) : EntLe e e := by
  cases e with
  | obj b => rfl
  | tk b f c s => exact ⟨b, f, c, rfl, .inr ⟨rfl, rfl, rfl⟩⟩
  | pend => trivial

theorem EntLe.trans {a b c : Ent} (h : EntLe a b) (h' : EntLe b c) : EntLe a c := by
  cases a with
  | obj x => simp only [EntLe] at h; subst h; exact h'
  | pend => trivial
  | tk x f cp s =>
    obtain ⟨b', f', c', rfl, h1⟩ := h
    obtain ⟨b'', f'', c'', rfl, h2⟩ := h'
    refine ⟨b'', f'', c'', rfl, ?_⟩
    rcases h1 with h1 | ⟨rfl, rfl, rfl⟩
    · rcases h2 with h2 | ⟨rfl, rfl, rfl⟩
      · exact .inl (by omega)
      · exact .inl h1
    · exact h2

structure Ext (m m' : Em) (w w' : World) : Prop where
  B : m'.B = m.B
  ents : ∀ (id : Nat) (e : Ent), m.ents[id]? = some e → ∃ e', m'.ents[id]? = some e' ∧ EntLe e e'
  st : ∀ b o, m.St b o → m'.St b o
  cell : ∀ b o, m.St b o → w'.cell? ⟨b, o, none⟩ = w.cell? ⟨b, o, none⟩

theorem Ext.refl (m : Em) (w : World) : Ext m m w w := ⟨rfl, fun id e h => ⟨e, h, EntLe.refl e⟩, fun _ _ h => h, fun _ _ _ => rfl⟩
theorem Ext.trans {m m' m'' : Em} {w w' w'' : World} (h : Ext m m' w w') (h' : Ext m' m'' w' w'') : Ext m m'' w w'' :=
  ⟨h'.B.trans h.B, fun id e he => by
    obtain ⟨e', he', l⟩ := h.ents id e he
    obtain ⟨e'', he'', l'⟩ := h'.ents id e' he'
    exact ⟨e'', he'', l.trans l'⟩, fun b o hs => h'.st b o (h.st b o hs), fun b o hs => (h'.cell b o (h.st b o hs)).trans (h.cell b o hs)⟩

theorem Ext.obj {m m' : Em} {w w' : World} (h : Ext m m' w w') {id blk : Nat} (he : m.ents[id]? = some (.obj blk)) : m'.ents[id]? = some (.obj blk) := by
  obtain ⟨e', he', l⟩ := h.ents id _ he
  simp only [EntLe] at l
  exact l ▸ he'

theorem TokOK.ext {m m' : Em} {w w' : World} (h : Ext m m' w w') {tok : Tok} {n tot cap b o : Nat} (ht : TokOK m.ents tok n tot cap b o) : TokOK m'.ents tok n tot cap b o := by
  cases tok with
  | nil => exact ht
  | any => trivial
  | full => exact ht
  | own t =>
    obtain ⟨blk, front, cap', sz, he, hle, heq⟩ := ht
    obtain ⟨e', he', b', f', c', rfl, hl⟩ := h.ents t _ he
    refine ⟨b', f', c', sz, he', ?_, ?_⟩
    · rcases hl with hl | ⟨rfl, rfl, rfl⟩ <;> omega
    · rcases hl with hl | ⟨rfl, rfl, rfl⟩
      · intro; omega
      · exact heq

theorem VR.ext {m m' : Em} {w w' : World} (h : Ext m m' w w') {v : AV} {r : Value} (hv : VR m w v r) : VR m' w' v r := by
  induction hv with
  | bool b => exact .bool b
  | int k n => exact .int k n
  | flt k a b hb => exact .flt k a b hb
  | cpx k a b c d h1 h2 => exact .cpx k a b c d h1 h2
  | str s => exact .str s
  | ptr id off blk he => exact .ptr id off blk (h.obj he)
  | nilp => exact .nilp
  | rop cs off b o r hc _ ih => exact .rop cs off b o r (fun j hj => ⟨h.st _ _ (hc j hj).1, (h.cell _ _ (hc j hj).1).trans (hc j hj).2⟩) ih
  | slcN tk ht => exact .slcN tk ht
  | slcE a c => exact .slcE a c
  | slc tk es b o cap sz r hle hsz hc _ ht ih => exact .slc tk es b o cap sz r hle hsz (fun j hj => ⟨h.st _ _ (hc j hj).1, (h.cell _ _ (hc j hj).1).trans (hc j hj).2⟩) ih (ht.ext h)
  | arr id off len sz ag a cap blk he hl ha => exact .arr id off len sz ag a cap blk (h.obj he) hl ha
  | map id blk he => exact .map id blk (h.obj he)
  | nilm => exact .nilm
  | fn f cs rs hl _ ih => exact .fn f cs rs hl ih
  | nilf => exact .nilf
  | ifc t v r _ ih => exact .ifc t v r ih
  | nili => exact .nili
  | agg cs rs hl _ ih => exact .agg cs rs hl ih
  | tup cs rs hl _ ih => exact .tup cs rs hl ih

theorem VRL.ext {m m' : Em} {w w' : World} (h : Ext m m' w w') {cs : List AV} {rs : List Value} (hv : VRL m w cs rs) : VRL m' w' cs rs :=
  ⟨hv.1, fun j v r h1 h2 => (hv.2 j v r h1 h2).ext h⟩
theorem VRL.nil (m : Em) (w : World) : VRL m w [] [] := ⟨rfl, fun j v r h => by simp at h⟩
theorem VRL.cons {m : Em} {w : World} {v : AV} {r : Value} {cs : List AV} {rs : List Value} (h : VR m w v r) (h' : VRL m w cs rs) : VRL m w (v :: cs) (r :: rs) :=
  ⟨by simp [h'.1], fun j x y h1 h2 => by
    cases j with
    | zero => simp at h1 h2; subst h1; subst h2; exact h
    | succ j => exact h'.2 j x y (by simpa using h1) (by simpa using h2)⟩
theorem VRL.append {m : Em} {w : World} {cs ds : List AV} {rs ss : List Value} (h : VRL m w cs rs) (h' : VRL m w ds ss) : VRL m w (cs ++ ds) (rs ++ ss) := by
  refine ⟨by simp [h.1, h'.1], fun j x y h1 h2 => ?_⟩
  by_cases hj : j < cs.length
  · rw [List.getElem?_append_left hj] at h1
    rw [List.getElem?_append_left (by rw [← h.1]; exact hj)] at h2
    exact h.2 j x y h1 h2
  · rw [List.getElem?_append_right (by omega)] at h1
    rw [List.getElem?_append_right (by rw [← h.1]; omega), ← h.1] at h2
    exact h'.2 _ x y h1 h2
theorem VRL.take {m : Em} {w : World} {cs : List AV} {rs : List Value} (h : VRL m w cs rs) (n : Nat) : VRL m w (cs.take n) (rs.take n) := by
  refine ⟨by simp [h.1], fun j x y h1 h2 => ?_⟩
  rw [List.getElem?_take] at h1 h2
  split at h1
  · rename_i hj; simp only [hj, if_true] at h2; exact h.2 j x y h1 h2
  · simp at h1
theorem VRL.drop {m : Em} {w : World} {cs : List AV} {rs : List Value} (h : VRL m w cs rs) (n : Nat) : VRL m w (cs.drop n) (rs.drop n) := by
  refine ⟨by simp [h.1], fun j x y h1 h2 => ?_⟩
  rw [List.getElem?_drop] at h1 h2
  exact h.2 _ x y h1 h2
/-- A list of related values, made of what is known place by place. -/
theorem VRL.of_fun {m : Em} {w : World} {cs : List AV} (r : Nat → Value) (h : ∀ j v, cs[j]? = some v → VR m w v (r j)) : VRL m w cs ((List.range cs.length).map r) := by
  refine ⟨by simp, fun j x y h1 h2 => ?_⟩
  have hj : j < cs.length := (List.getElem?_eq_some_iff.1 h1).1
  simp [List.getElem?_map, List.getElem?_range hj] at h2
  exact h2 ▸ h j x h1

theorem undf_VR (m : Em) (w : World) : VR m w undf undef := .tup [] [] rfl (fun j v r h => by simp at h)

/-- What is one cell is one cell there. -/
theorem VR.one {m : Em} {w : World} {v : AV} {r : Value} (h : VR m w v r) (h1 : v.one = true) : r.oneCell' = true := by
  cases h <;> first | rfl | simp [AV.one] at h1
theorem VR.cells {m : Em} {w : World} {v : AV} {r : Value} (h : VR m w v r) : VRL m w v.cells r.cells.toList := by
  cases h with
  | agg cs rs hl hv => exact ⟨by simpa [AV.cells, Value.cells] using hl, fun j x y h1 h2 => hv j x y h1 (by simpa [Value.cells] using h2)⟩
  | bool b => exact (VRL.nil m w).cons (.bool b)
  | int k n => exact (VRL.nil m w).cons (.int k n)
  | flt k a b hb => exact (VRL.nil m w).cons (.flt k a b hb)
  | cpx k a b c d h1 h2 => exact (VRL.nil m w).cons (.cpx k a b c d h1 h2)
  | str s => exact (VRL.nil m w).cons (.str s)
  | ptr id off blk he => exact (VRL.nil m w).cons (.ptr id off blk he)
  | nilp => exact (VRL.nil m w).cons .nilp
  | rop cs off b o r hc hr => exact (VRL.nil m w).cons (.rop cs off b o r hc hr)
  | slcN tk ht => exact (VRL.nil m w).cons (.slcN tk ht)
  | slcE a c => exact (VRL.nil m w).cons (.slcE a c)
  | slc tk es b o cap sz r hle hsz hc hr ht => exact (VRL.nil m w).cons (.slc tk es b o cap sz r hle hsz hc hr ht)
  | arr id off len sz ag a cap blk he hl ha => exact (VRL.nil m w).cons (.arr id off len sz ag a cap blk he hl ha)
  | map id blk he => exact (VRL.nil m w).cons (.map id blk he)
  | nilm => exact (VRL.nil m w).cons .nilm
  | fn f cs rs hl hv => exact (VRL.nil m w).cons (.fn f cs rs hl hv)
  | nilf => exact (VRL.nil m w).cons .nilf
  | ifc t v r hv => exact (VRL.nil m w).cons (.ifc t v r hv)
  | nili => exact (VRL.nil m w).cons .nili
  | tup cs rs hl hv => exact (VRL.nil m w).cons (.tup cs rs hl hv)

/-! ### flat -/
theorem flat_append (a b : List AV) : AV.flat (a ++ b) = AV.flat a ++ AV.flat b := by
  induction a with
  | nil => rfl
  | cons x r ih => simp [AV.flat, ih]
theorem flat_length {es : List AV} {sz : Nat} (h : ∀ e ∈ es, e.cells.length = sz) : (AV.flat es).length = es.length * sz := by
  induction es with
  | nil => simp [AV.flat]
  | cons x r ih => simp only [AV.flat, List.length_append, List.length_cons, ih (fun e he => h e (by simp [he])), h x (by simp)]; rw [Nat.add_mul]; omega
theorem flat_getElem {es : List AV} {sz : Nat} (h : ∀ e ∈ es, e.cells.length = sz) : ∀ (i : Nat) (e : AV), es[i]? = some e → ∀ j, j < sz → (AV.flat es)[i * sz + j]? = e.cells[j]? := by
  induction es with
  | nil => intro i e he; simp at he
  | cons x r ih =>
    intro i e he j hj
    have hx := h x (by simp)
    cases i with
    | zero => simp at he; subst he; simp only [AV.flat, Nat.zero_mul, Nat.zero_add]; rw [List.getElem?_append_left (by omega)]
    | succ i =>
      simp only [AV.flat]
      rw [List.getElem?_append_right (by rw [hx, Nat.add_mul]; omega), hx, show (i + 1) * sz + j - sz = i * sz + j by rw [Nat.add_mul]; omega]
      exact ih (fun e he => h e (by simp [he])) i e (by simpa using he) j hj

/-! ### Worlds -/
def entBlk : Ent → Option Nat
  | .obj b => some b
  | .tk b _ _ _ => some b
  | .pend => none

/-- The entries' stamps are their places. -/
def MB (ms : Array MapEntry) (ck : Nat) : Prop := ms.toList.map (·.born) = List.range ms.size ∧ ck = ms.size

def ObjR (m : Em) (w : World) : Obj → Ent → Prop
  | .dead, _ => True
  | .box cs, .obj b => m.B ≤ b ∧ (∃ c E, w.heap[b]? = some (.cells c E (0, 0)) ∧ VRL m w cs c.toList) ∧ ∀ o, ¬ m.St b o
  | .mp es, .obj b => m.B ≤ b ∧ (∃ ms ck, w.heap[b]? = some (.map ms ck) ∧ VRL m w (es.map (·.1)) (ms.toList.map (·.key)) ∧ VRL m w (es.map (·.2)) (ms.toList.map (·.val)) ∧ MB ms ck) ∧ ∀ o, ¬ m.St b o
  | .tok front sz, .tk b f cap s => m.B ≤ b ∧ f = front ∧ s = sz ∧ (∃ c E, w.heap[b]? = some (.cells c E (0, 0)) ∧ c.size = cap * sz ∧ cap ≤ 9223372036854775807 ∧ front ≤ c.size) ∧ ∀ o, m.St b o → o < front
  | .tok _ _, .obj _ => False
  | .box _, .tk _ _ _ _ => False
  | .mp _, .tk _ _ _ _ => False
  | _, .pend => True

def Obj.live : Obj → Bool
  | .dead => false
  | _ => true

structure WRel (m : Em) (H : Heap) (w : World) : Prop where
  len : m.ents.length = H.length
  obj : ∀ (id : Nat) (o : Obj) (e : Ent), H[id]? = some o → m.ents[id]? = some e → ObjR m w o e
  sep : ∀ (i j : Nat) (o o' : Obj) (e e' : Ent) (b : Nat), H[i]? = some o → o.live = true → m.ents[i]? = some e → entBlk e = some b →
    H[j]? = some o' → o'.live = true → m.ents[j]? = some e' → entBlk e' = some b → i = j
  st : ∀ b o, m.St b o → ∃ v, w.cell? ⟨b, o, none⟩ = some v
  size : m.B ≤ w.heap.size

theorem ObjR.blk_lt {m : Em} {w : World} {o : Obj} {e : Ent} (h : ObjR m w o e) (hl : o.live = true) {b : Nat} (hb : entBlk e = some b) : b < w.heap.size ∧ m.B ≤ b := by
  cases o <;> cases e <;> simp [entBlk, Obj.live] at hb hl <;> subst hb <;> simp only [ObjR] at h
  · obtain ⟨h1, ⟨c, E, hc, _⟩, _⟩ := h; exact ⟨(Array.getElem?_eq_some_iff.1 hc).1, h1⟩
  · obtain ⟨h1, _, _, ⟨c, E, hc, _⟩, _⟩ := h; exact ⟨(Array.getElem?_eq_some_iff.1 hc).1, h1⟩
  · obtain ⟨h1, ⟨c, E, hc, _⟩, _⟩ := h; exact ⟨(Array.getElem?_eq_some_iff.1 hc).1, h1⟩

/-- An object whose block isn't touched stays. -/
theorem ObjR.keep {m m' : Em} {w w' : World} {o : Obj} {e : Ent} (h : ObjR m w o e) (hx : Ext m m' w w')
    (hb : o.live = true → ∀ b, entBlk e = some b → w'.heap[b]? = w.heap[b]?) (hs : o.live = true → ∀ b off, entBlk e = some b → m'.St b off → m.St b off) : ObjR m' w' o e := by
  cases o with
  | dead => cases e <;> trivial
  | box cs =>
    cases e with
    | obj b =>
      obtain ⟨h1, ⟨c, E, hc, hv⟩, h3⟩ := h
      exact ⟨hx.B ▸ h1, ⟨c, E, (hb rfl b rfl).trans hc, hv.ext hx⟩, fun off ho => h3 off (hs rfl b off rfl ho)⟩
    | tk b f c s => exact h
    | pend => trivial
  | mp es =>
    cases e with
    | obj b =>
      obtain ⟨h1, ⟨c, E, hc, hv, hv', hmb⟩, h3⟩ := h
      exact ⟨hx.B ▸ h1, ⟨c, E, (hb rfl b rfl).trans hc, hv.ext hx, hv'.ext hx, hmb⟩, fun off ho => h3 off (hs rfl b off rfl ho)⟩
    | tk b f c s => exact h
    | pend => trivial
  | tok front sz =>
    cases e with
    | obj b => exact h
    | tk b f cap s =>
      obtain ⟨h1, h2, h3, ⟨c, E, hc, hv, hv', hv''⟩, h5⟩ := h
      exact ⟨hx.B ▸ h1, h2, h3, ⟨c, E, (hb rfl b rfl).trans hc, hv, hv', hv''⟩, fun off ho => h5 off (hs rfl b off rfl ho)⟩
    | pend => trivial

/-- A world whose heap is the same. -/
theorem WRel.heap {m : Em} {H : Heap} {w w' : World} (h : WRel m H w) (hh : w'.heap = w.heap) : WRel m H w' ∧ Ext m m w w' := by
  have hc : ∀ a, w'.cell? a = w.cell? a := fun a => by simp [World.cell?, hh]
  have hx : Ext m m w w' := ⟨rfl, fun id e he => ⟨e, he, EntLe.refl e⟩, fun _ _ h => h, fun b o _ => hc _⟩
  exact ⟨⟨h.len, fun id o e h1 h2 => (h.obj id o e h1 h2).keep hx (fun _ b _ => by rw [hh]) (fun _ _ _ _ h => h), h.sep, fun b o hs => by rw [hc]; exact h.st b o hs, by rw [hh]; exact h.size⟩, hx⟩

/-- The two worlds, seen from below the base. -/
structure Le (m : Em) (w : World) (m' : Em) (w' : World) : Prop where
  ext : Ext m m' w w'
  low : Below m.B w w'
theorem Le.refl (m : Em) (w : World) : Le m w m w := ⟨.refl m w, .refl _ _⟩
theorem Le.trans {m m' m'' : Em} {w w' w'' : World} (h : Le m w m' w') (h' : Le m' w' m'' w'') : Le m w m'' w'' :=
  ⟨h.ext.trans h'.ext, h.low.trans (by have := h'.low; rwa [h.ext.B] at this)⟩

/-- Objects that aren't there yet are left alone. -/
def Pend (m : Em) (H : Heap) (m' : Em) (H' : Heap) : Prop :=
  H.length ≤ H'.length ∧ ∀ id : Nat, m.ents[id]? = some .pend → H'[id]? = H[id]? ∧ m'.ents[id]? = some .pend
theorem Pend.refl (m : Em) (H : Heap) : Pend m H m H := ⟨Nat.le_refl _, fun _ h => ⟨rfl, h⟩⟩
theorem Pend.trans {m m' m'' : Em} {H H' H'' : Heap} (h : Pend m H m' H') (h' : Pend m' H' m'' H'') : Pend m H m'' H'' :=
  ⟨Nat.le_trans h.1 h'.1, fun id hp => by
    obtain ⟨a, b⟩ := h.2 id hp
    obtain ⟨c, d⟩ := h'.2 id b
    exact ⟨c.trans a, d⟩⟩

end Go.Lim
