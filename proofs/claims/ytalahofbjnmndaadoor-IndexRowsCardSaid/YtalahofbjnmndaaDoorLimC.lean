/- The E machine: when resolved operations are those of the code (a checker), and the operations' soundness, part 1. -/
import Derived.Test.YtalahofbjnmndaaDoorLimB
import Derived.Laws.IdiomStrings
import Derived.Laws.BytesString
import Derived.WideLaws
import Derived.Laws.MakeOwn
import Derived.Laws.Tables
import Derived.Laws.IdiomCopy
import Derived.WalkKit
set_option linter.unusedVariables false
set_option linter.unusedSimpArgs false
namespace Go.Lim
open Go.RowKit

mutual
def chkV : AV → Value → Bool
  | .bool a, .bool b => a == b
  | .int k a, .int l b => decide (k = l) && decide (a = b)
  | .flt k (some a), .float l b => decide (k = l) && decide (a = b)
  | .cpx k (some a) (some c), .complex l b d => decide (k = l) && decide (a = b) && decide (c = d)
  | .str a, .string b => decide (a = b.data.toList)
  | .nilp, .pointer none => true
  | .slc .nil [], .slice none 0 0 => true
  | .nilm, .map none => true
  | .fn f [], .func (.func g) x y => decide (f = g) && x.isEmpty && y.isEmpty
  | .nilf, .nilFunc => true
  | .ifc t v, .iface u r => decide (t = u) && chkV v r
  | .nili, .nilIface => true
  | .agg a, .agg b => chkVL a b.toList
  | .tup a, .tuple b => chkVL a b.toList
  | _, _ => false
def chkVL : List AV → List Value → Bool
  | [], [] => true
  | a :: r, b :: s => chkV a b && chkVL r s
  | _, _ => false
end

mutual
theorem chkV_sound {m : Em} {w : World} : ∀ (v : AV) (r : Value), chkV v r = true → VR m w v r
  | .bool a, r, h => by cases r <;> simp [chkV] at h; subst h; exact .bool _
  | .int k a, r, h => by cases r <;> simp [chkV] at h; obtain ⟨rfl, rfl⟩ := h; exact .int _ _
  | .flt k a, r, h => by
    cases a with
    | none => simp [chkV] at h
    | some a => cases r <;> simp [chkV] at h; obtain ⟨rfl, rfl⟩ := h; exact .flt _ _ _ rfl
  | .cpx k a b, r, h => by
    cases a with
    | none => simp [chkV] at h
    | some a =>
      cases b with
      | none => simp [chkV] at h
      | some b => cases r <;> simp [chkV] at h; obtain ⟨⟨rfl, rfl⟩, rfl⟩ := h; exact .cpx _ _ _ _ _ rfl rfl
  | .str a, r, h => by
    cases r <;> simp [chkV] at h
    subst h
    rename_i s
    have : s = ⟨s.data.toList.toArray⟩ := by cases s; simp
    rw [this]; exact .str _
  | .ptr a b, r, h => by simp [chkV] at h
  | .nilp, r, h => by
    cases r with
    | pointer a => cases a with
      | none => exact .nilp
      | some a => simp [chkV] at h
    | _ => simp [chkV] at h
  | .rop a b, r, h => by simp [chkV] at h
  | .slc tk es, r, h => by
    cases tk <;> cases es <;> cases r <;> try (simp [chkV] at h; done)
    rename_i a n c
    cases a <;> cases n <;> cases c <;> try (simp [chkV] at h; done)
    exact .slcN _ (.inl rfl)
  | .arr a b c d e, r, h => by simp [chkV] at h
  | .map a, r, h => by simp [chkV] at h
  | .nilm, r, h => by
    cases r with
    | map a => cases a with
      | none => exact .nilm
      | some a => simp [chkV] at h
    | _ => simp [chkV] at h
  | .fn f cs, r, h => by
    cases cs <;> cases r <;> try (simp [chkV] at h; done)
    rename_i fn x y
    cases fn <;> try (simp [chkV] at h; done)
    simp [chkV] at h
    obtain ⟨⟨rfl, rfl⟩, rfl⟩ := h
    exact .fn _ [] [] rfl (fun j v r hh => by simp at hh)
  | .nilf, r, h => by cases r <;> simp [chkV] at h; exact .nilf
  | .ifc t v, r, h => by
    cases r <;> simp [chkV] at h
    obtain ⟨rfl, h⟩ := h
    exact .ifc _ _ _ (chkV_sound v _ h)
  | .nili, r, h => by cases r <;> simp [chkV] at h; exact .nili
  | .agg cs, r, h => by
    cases r <;> simp [chkV] at h
    rename_i b
    have hl := chkVL_sound (m := m) (w := w) cs _ h
    have : b = b.toList.toArray := by simp
    rw [this]; exact .agg cs _ hl.1 hl.2
  | .tup cs, r, h => by
    cases r <;> simp [chkV] at h
    rename_i b
    have hl := chkVL_sound (m := m) (w := w) cs _ h
    have : b = b.toList.toArray := by simp
    rw [this]; exact .tup cs _ hl.1 hl.2
theorem chkVL_sound {m : Em} {w : World} : ∀ (vs : List AV) (rs : List Value), chkVL vs rs = true → VRL m w vs rs
  | [], rs, h => by cases rs <;> simp [chkVL] at h; exact VRL.nil m w
  | v :: vs, rs, h => by
    cases rs <;> simp [chkVL] at h
    exact (chkVL_sound vs _ h.2).cons (chkV_sound v _ h.1)
end

def chkX : Operand → EX → Bool
  | .tmp t, .t u => decide (t = u)
  | .const v, .c a => chkV a v
  | .global g, .g h => decide (g = h)
  | .func f, .c (.fn g []) => decide (f = g)
  | _, _ => false
def chkXs : List Operand → List EX → Bool
  | [], [] => true
  | a :: r, b :: s => chkX a b && chkXs r s
  | _, _ => false
def chkXo : Option Operand → Option EX → Bool
  | none, none => true
  | some a, some b => chkX a b
  | _, _ => false

def EnvR (m : Em) (w : World) (e : Env) (tmps : Array Value) : Prop := ∀ (t : Nat) v, Env.get e t = some v → VR m w v (tmps.getD t undef)
def GlR (m : Em) (w : World) (gl : Nat → Option (List AV)) : Prop := ∀ g cs, gl g = some cs → VR m w (.rop cs 0) (.pointer (some ⟨g, 0, none⟩))

theorem EnvR.ext {m m' : Em} {w w' : World} (h : Ext m m' w w') {e : Env} {t : Array Value} (he : EnvR m w e t) : EnvR m' w' e t := fun u v hv => (he u v hv).ext h
theorem GlR.ext {m m' : Em} {w w' : World} (h : Ext m m' w w') {gl : Nat → Option (List AV)} (hg : GlR m w gl) : GlR m' w' gl := fun g cs hc => (hg g cs hc).ext h

/-- What an operand's value stands for. -/
def XR (cx : Cx) (m : Em) (w : World) (e : Env) (ρ : Operand → Value) : Prop := ∀ x y v, chkX x y = true → ev cx e y = some v → VR m w v (ρ x)
theorem XR.of {cx : Cx} {m : Em} {w : World} {e : Env} {a : Act} (he : EnvR m w e a.tmps) (hg : GlR m w cx.gl) : XR cx m w e a.eval := by
  intro x y v hx hv
  cases x with
  | tmp t =>
    cases y <;> simp [chkX] at hx
    subst hx
    exact he t v hv
  | const c =>
    cases y <;> simp [chkX] at hx
    simp only [ev, Option.some.injEq] at hv
    subst hv
    exact chkV_sound _ _ hx
  | global g =>
    cases y <;> simp [chkX] at hx
    subst hx
    simp only [ev, Option.map_eq_some_iff] at hv
    obtain ⟨cs, hc, rfl⟩ := hv
    exact hg g cs hc
  | func f =>
    cases y with
    | c a =>
      cases a <;> simp [chkX] at hx
      rename_i g cs
      cases cs <;> simp [chkX] at hx
      subst hx
      simp only [ev, Option.some.injEq] at hv
      subst hv
      exact .fn _ [] [] rfl (fun j v r hh => by simp at hh)
    | _ => simp [chkX] at hx
theorem XR.list {cx : Cx} {m : Em} {w : World} {e : Env} {ρ : Operand → Value} (h : XR cx m w e ρ) : ∀ xs ys vs, chkXs xs ys = true → evs cx e ys = some vs → VRL m w vs (xs.map ρ)
  | [], [], vs, _, hv => by simp [evs] at hv; subst hv; exact VRL.nil m w
  | [], _ :: _, _, hx, _ => by simp [chkXs] at hx
  | _ :: _, [], _, hx, _ => by simp [chkXs] at hx
  | x :: xs, y :: ys, vs, hx, hv => by
    simp only [chkXs, Bool.and_eq_true] at hx
    simp only [evs, Option.bind_eq_some_iff] at hv
    obtain ⟨v, h1, vs', h2, h3⟩ := hv
    simp at h3; subst h3
    exact (h.list xs ys vs' hx.2 h2).cons (h x y v hx.1 h1)

def slElem (P : Program) (t : TypeId) : Option TypeId :=
  match P.underlying t with
  | some (.slice e) => some e
  | _ => none
theorem slElem_some {P : Program} {t e : TypeId} (h : slElem P t = some e) : P.underlying t = some (.slice e) := by
  unfold slElem at h
  split at h
  · rename_i e' he; simp at h; subst h; exact he
  · simp at h
def isAggT (P : Program) (t : TypeId) : Option Bool :=
  match P.underlying t with
  | some (.struct _) => some true
  | some (.array _ _) => some true
  | some _ => some false
  | none => none
theorem run_isAgg {P : Program} {t : TypeId} {b : Bool} (h : isAggT P t = some b) (w : World) : (isAgg t).run P w = .ok b w := by
  unfold isAggT at h
  split at h <;> simp at h <;> subst h <;> rename_i hu
  · simp [isAgg, run_underlying hu]
  · simp [isAgg, run_underlying hu]
  · rename_i d h2 h3
    simp only [isAgg]
    simp [run_underlying hu]
def sizeIs (P : Program) (t : TypeId) (n : Nat) : Bool :=
  match P.info? t with
  | some i => decide (i.size = n)
  | none => false
theorem run_sizeIs {P : Program} {t : TypeId} {n : Nat} (h : sizeIs P t n = true) (w : World) : (sizeOf t).run P w = .ok n w := by
  unfold sizeIs at h
  split at h <;> simp at h
  rename_i i hi
  simp [sizeOf, typeInfo, hi, h]
def zeroIs (P : Program) (t : TypeId) (v : AV) : Bool :=
  match P.info? t with
  | some i => match i.zero with
    | some z => chkV v z
    | none => false
  | none => false
theorem zeroIs_some {P : Program} {t : TypeId} {v : AV} (h : zeroIs P t v = true) : ∃ i z, P.info? t = some i ∧ i.zero = some z ∧ chkV v z = true := by
  unfold zeroIs at h
  split at h
  · rename_i i hi
    split at h
    · rename_i z hz; exact ⟨i, z, hi, hz, h⟩
    · simp at h
  · simp at h
theorem run_zeroIs {P : Program} {t : TypeId} {i : TypeInfo} {z : Value} (hi : P.info? t = some i) (hz : i.zero = some z) (w : World) : (zeroValue t).run P w = .ok z w := by
  simp [zeroValue, typeInfo, hi, hz]

/-- The outcome of an operation that leaves the heap alone. -/
def Fits (P : Program) (m : Em) (H : Heap) (w : World) (s : Sem Value) (v : AV) : Prop :=
  ∃ r m' w', s.run P w = .ok r w' ∧ VR m' w' v r ∧ Le m w m' w' ∧ WRel m' H w' ∧ m'.ents = m.ents
theorem Fits.same {P : Program} {m : Em} {H : Heap} {w : World} {s : Sem Value} {v : AV} {r : Value} (hw : WRel m H w) (hr : s.run P w = .ok r w) (hv : VR m w v r) : Fits P m H w s v :=
  ⟨r, m, w, hr, hv, .refl m w, hw, rfl⟩

/-! ### cells -/
theorem addr_add (b o n : Nat) : (⟨b, o, none⟩ : Addr).add n = ⟨b, o + n, none⟩ := by unfold Addr.add; split <;> simp_all

theorem rdc_some {cs vs : List AV} {off n : Nat} (h : rdc cs off n = some vs) : off + n ≤ cs.length ∧ vs = (cs.drop off).take n ∧ vs.length = n := by
  unfold rdc at h
  split at h
  · rename_i hl; simp at h; subst h; exact ⟨hl, rfl, by simp; omega⟩
  · simp at h

theorem asg_some {ag : Bool} {cs : List AV} {v : AV} (h : asg ag cs = some v) : (ag = true ∧ v = .agg cs) ∨ (ag = false ∧ cs = [v]) := by
  unfold asg at h
  cases ag with
  | true => simp at h; exact .inl ⟨rfl, h.symm⟩
  | false =>
    simp at h
    split at h
    · simp at h; subst h; exact .inr ⟨rfl, rfl⟩
    · simp at h

/-- A row of cells at an address, as related values. -/
theorem run_loadVar_of {P : Program} {m : Em} {w : World} {t : TypeId} {n : Nat} {ag : Bool} {b o : Nat} {cs : List AV} {rs : List Value} {v : AV}
    (hs : sizeIs P t n = true) (ha : isAggT P t = some ag) (hr : VRL m w cs rs) (hn : cs.length = n) (hc : ∀ (j : Nat) u, rs[j]? = some u → w.cell? ⟨b, o + j, none⟩ = some u) (hv : asg ag cs = some v) :
    ∃ r, (loadVar t ⟨b, o, none⟩).run P w = .ok r w ∧ VR m w v r := by
  rcases asg_some hv with ⟨rfl, rfl⟩ | ⟨rfl, rfl⟩
  · refine ⟨.agg rs.toArray, ?_, .agg cs rs hr.1 hr.2⟩
    have hl := run_loadCells_list (P := P) (w := w) ⟨b, o, none⟩ rs (fun j u h => by rw [addr_add]; exact hc j u h)
    have hln : rs.length = n := by rw [← hr.1]; exact hn
    rw [hln] at hl
    simp [loadVar, run_isAgg ha, run_sizeIs hs, hl]
  · obtain ⟨hl, hv'⟩ := hr
    match rs, hl with
    | [r], _ =>
      refine ⟨r, ?_, hv' 0 v r rfl rfl⟩
      have := hc 0 r rfl
      simp [loadVar, run_isAgg ha, load, Sem.run, show w.cell? ⟨b, o, none⟩ = some r from this]

theorem WRel.box {m : Em} {H : Heap} {w : World} (h : WRel m H w) {id blk : Nat} {cs : List AV} (hH : H[id]? = some (.box cs)) (he : m.ents[id]? = some (.obj blk)) :
    m.B ≤ blk ∧ (∃ c E, w.heap[blk]? = some (.cells c E (0, 0)) ∧ VRL m w cs c.toList) ∧ ∀ o, ¬ m.St blk o := h.obj id _ _ hH he

theorem cell_of_block {w : World} {b : Nat} {c : Array Value} {E : TypeId} {fz : Nat × Nat} (h : w.heap[b]? = some (.cells c E fz)) (o : Nat) : w.cell? ⟨b, o, none⟩ = c[o]? := by
  simp [World.cell?, h]

theorem loadE_sound {P : Program} {m : Em} {H : Heap} {w : World} {t : TypeId} {n : Nat} {ag : Bool} {a v : AV} {r : Value} (hw : WRel m H w) (hs : sizeIs P t n = true) (hag : isAggT P t = some ag)
    (ha : VR m w a r) (h : loadE H ag n a = some v) : Fits P m H w (Instr.loadAt t r) v := by
  cases ha with
  | ptr id off blk he =>
    simp only [loadE] at h
    split at h
    · rename_i cs hH
      simp only [Option.bind_eq_some_iff] at h
      obtain ⟨vs, h1, h2⟩ := h
      obtain ⟨hl, hvs, hlen⟩ := rdc_some h1
      obtain ⟨_, ⟨c, E, hc, hv⟩, _⟩ := hw.box hH he
      have hr := (hv.drop off).take n
      rw [← hvs] at hr
      obtain ⟨r, h3, h4⟩ := run_loadVar_of (P := P) (b := blk) (o := off) hs hag hr hlen (fun j u hu => by
        rw [cell_of_block hc]
        rw [List.getElem?_take] at hu
        split at hu
        · rw [List.getElem?_drop] at hu; simpa using hu
        · simp at hu) h2
      exact .same hw (by simp [Instr.loadAt, Instr.sureAddr, h3]) h4
    · simp at h
  | rop cs off b o rr hc hv =>
    simp only [loadE, Option.bind_eq_some_iff] at h
    obtain ⟨vs, h1, h2⟩ := h
    obtain ⟨hl, hvs, hlen⟩ := rdc_some h1
    have hr := ((VRL.of_fun rr hv).drop off).take n
    rw [← hvs] at hr
    obtain ⟨r, h3, h4⟩ := run_loadVar_of (P := P) (b := b) (o := o + off) hs hag hr hlen (fun j u hu => by
      rw [List.getElem?_take] at hu
      split at hu
      · rename_i hj
        rw [List.getElem?_drop] at hu
        have hlt : off + j < cs.length := by omega
        simp [List.getElem?_map, List.getElem?_range hlt] at hu
        have := (hc (off + j) hlt).2
        rw [← Nat.add_assoc] at this
        rw [this, hu]
      · simp at hu) h2
    exact .same hw (by simp [Instr.loadAt, Instr.sureAddr, h3]) h4
  | _ => simp [loadE] at h

def NoNil : Value → Prop
  | .pointer none => False
  | .nilIface => False
  | .nilFunc => False
  | .func (.method _) _ _ => False
  | _ => True
theorem nilckE_sound {m : Em} {w : World} {a v : AV} {r : Value} (ha : VR m w a r) (h : nilckE a = some v) : NoNil r ∧ VR m w v r := by
  cases ha with
  | ptr id off blk he => simp [nilckE] at h; subst h; exact ⟨trivial, .ptr id off blk he⟩
  | rop cs off b o rr hc hv => simp [nilckE] at h; subst h; exact ⟨trivial, .rop cs off b o rr hc hv⟩
  | fn f cs rs hl hv => simp [nilckE] at h; subst h; exact ⟨trivial, .fn f cs rs hl hv⟩
  | _ => simp [nilckE] at h

end Go.Lim
