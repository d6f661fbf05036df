/- The E machine: regions that draw their order. -/
import Derived.Test.YtalahofbjnmndaaDoorLimM
set_option linter.unusedVariables false
set_option linter.unusedSimpArgs false
namespace Go.Lim
open Go.RowKit
variable {P : Program} {m : Em} {H : Heap} {w : World} {cx : Cx} {e : Env} {ρ : Operand → Value}

/-- What only lays a new object. -/
def EOp.isAl : EOp → Bool
  | .alloc _ | .box _ | .mkmap => true
  | .mkslice _ _ _ (.t a) (.t b) => decide (a = b)
  | _ => false

/-- A new object that is no growing row. -/
def Obj.firm : Obj → Bool
  | .tok _ _ => false
  | .dead => false
  | _ => true

set_option maxHeartbeats 1000000 in
theorem al_run (hw : WRel m H w) (hX : XR cx m w e ρ) {Hh H' : Heap} {o : Oper} {x : EOp} {v : AV} {s : Esc} (hc : chkOp P o.op x = true) (hal : x.isAl = true) (h : hop cx e Hh x = some (v, H', s)) :
    ∃ r w' ob obj, H' = Hh ++ [obj] ∧ obj.firm = true ∧ s = none ∧ (execOp ρ o).run P w = .ok (.value r) w' ∧ w'.heap = w.heap.push ob ∧ w'.tape = w.tape ∧ w'.os = w.os ∧ w'.output = w.output ∧
      (∀ m', Ext m m' w w' → (∀ off, ¬ m'.St w.heap.size off) → ObjR m' w' obj (.obj w.heap.size)) ∧ (∀ m', m'.ents[Hh.length]? = some (.obj w.heap.size) → VR m' w' v r) := by
  obtain ⟨dst, op, type, pos, after, guard⟩ := o
  simp only at hc
  unfold chkOp at hc
  split at hc <;> try (simp [EOp.isAl] at hal; done)
  · rename_i t zero
    simp only [hop] at h
    split at h <;> simp at h
    obtain ⟨rfl, rfl, rfl⟩ := h
    split at hc <;> try (simp at hc; done)
    rename_i i hi
    split at hc <;> try (simp at hc; done)
    rename_i z hz
    have hv := chkVL_sound (m := m) (w := w) _ _ hc
    refine ⟨.pointer (some ⟨w.heap.size, 0, none⟩), w.alloc (.cells z.cells t), _, _, rfl, rfl, rfl, ?_, rfl, rfl, rfl, rfl, fun m' hx hns => ⟨hx.B ▸ hw.size, ⟨z.cells, t, heap_push_new (w := w) rfl, hv.ext hx⟩, hns⟩, fun m' he => .ptr _ _ _ he⟩
    simp [execOp, Instr.alloc, run_zeroIs hi hz, newVar, newRow, newObj, Sem.run]
  · rename_i t a x
    simp only [hop, Option.bind_eq_some_iff] at h
    obtain ⟨u, h1, h2⟩ := h
    split at h2 <;> simp at h2
    obtain ⟨rfl, rfl, rfl⟩ := h2
    have hv := (hX _ _ _ hc h1).cells
    refine ⟨.pointer (some ⟨w.heap.size, 0, none⟩), w.alloc (.cells (ρ a).cells t), _, _, rfl, rfl, rfl, ?_, rfl, rfl, rfl, rfl, fun m' hx hns => ⟨hx.B ▸ hw.size, ⟨_, t, heap_push_new (w := w) rfl, hv.ext hx⟩, hns⟩, fun m' he => .ptr _ _ _ he⟩
    simp [execOp, Instr.box, newVar, newRow, newObj, Sem.run]
  · rename_i t l c zero sz bytes x y
    simp only [Bool.and_eq_true] at hc
    simp only [hop, Option.bind_eq_some_iff] at h
    obtain ⟨u, h1, u', h2, h3⟩ := h
    obtain ⟨⟨h5, h6⟩, h7⟩ := hc
    split at h5 <;> try (simp at h5; done)
    rename_i el hel
    simp only [Bool.and_eq_true] at h5
    have huu : u = u' := by
      cases x <;> cases y <;> simp [EOp.isAl] at hal
      subst hal
      rw [h1] at h2; simpa using h2
    subst huu
    obtain ⟨hu, i, z, hi, hz, hsize, hbytes, hzs, hpos, hbpos⟩ := appT_some h5.1
    obtain ⟨i', z', hi', hz', hzv⟩ := zeroIs_some h5.2
    rw [hi] at hi'; simp at hi'; subst hi'
    rw [hz] at hz'; simp at hz'; subst hz'
    have hzc := (chkV_sound (m := m) (w := w) _ _ hzv).cells
    have ha := hX _ _ _ h6 h1
    have hb := hX _ _ _ h7 h2
    cases u <;> try (simp [mksliceE] at h3; done)
    rename_i k q
    cases k <;> try (simp [mksliceE] at h3; done)
    simp only [mksliceE] at h3
    split at h3 <;> try (simp at h3; done)
    rename_i hcond
    obtain ⟨h0, _, h8, h9, h10, h11⟩ := hcond
    simp at h3
    obtain ⟨rfl, rfl, rfl⟩ := h3
    have hra : ρ l = .int .i64 q := by generalize ρ l = rl at ha; cases ha; rfl
    have hrc : ρ c = .int .i64 q := by generalize ρ c = rl at hb; cases hb; rfl
    have hby : (i.bytes : Int) * q ≤ 281474976710656 := by rw [hbytes, Int.mul_comm]; omega
    have hrun := run_make (P := P) w t el i z hu hi hz .i64 .i64 q q h0 (Int.le_refl _) hby h9
    rw [hsize] at hrun
    refine ⟨_, w.alloc (.cells (madeCells z.cells (q.toNat * sz)) el), _, _, rfl, rfl, rfl, ?_, rfl, rfl, rfl, rfl,
      fun m' hx hns => ⟨hx.B ▸ hw.size, ⟨_, el, heap_push_new (w := w) rfl, (madeCells_flat hzc hzs).ext hx⟩, hns⟩, fun m' he => .arr _ _ _ _ _ ⟨w.heap.size, 0, none⟩ q.toNat _ he (Nat.le_refl _) (fun _ => rfl)⟩
    simp [execOp, hra, hrc, hrun]
  · rename_i t
    simp [hop] at h
    obtain ⟨rfl, rfl, rfl⟩ := h
    refine ⟨.map (some w.heap.size), w.alloc (.map #[] 0), _, _, rfl, rfl, rfl, ?_, rfl, rfl, rfl, rfl, fun m' hx hns => ⟨hx.B ▸ hw.size, ⟨#[], 0, heap_push_new (w := w) rfl, VRL.nil _ _, VRL.nil _ _, rfl, rfl⟩, hns⟩, fun m' he => .map _ _ he⟩
    simp [execOp, run_makeMap t w]
  · exact absurd hc (by simp)

theorem firm_live {o : Obj} (h : o.firm = true) : o.live = true := by cases o <;> simp [Obj.firm, Obj.live] at h ⊢

/-! ### the trace of a region, in the order that was chosen -/
def Tr (cx : Cx) (D : List DOper) (st : Nat → Env × Heap) : Prop := ∀ (j : Nat) d, D[j]? = some d → ∃ s, evop cx d.o (st j).1 (st j).2 = some ((st (j + 1)).1, (st (j + 1)).2, s)

theorem evdops_trace : ∀ (D : List DOper) (j : Nat) (e : Env) (H : Heap) (s : Esc) (hs : List (Nat × Heap)) (rs : List (DOper × Env × AV)) (e' : Env) (H' : Heap) (s' : Esc) (hs' : List (Nat × Heap)) (rs' : List (DOper × Env × AV)),
    evdops cx j D e H s hs rs = some (e', H', s', hs', rs') →
    ∃ st, st 0 = (e, H) ∧ Tr cx D st ∧ st D.length = (e', H') ∧ (∀ x ∈ hs, x ∈ hs') ∧ (j + D.length, H') ∈ hs' ∧ (∀ (p : Nat) d, D[p]? = some d → d.eff = true → (j + p, (st p).2) ∈ hs') ∧ (∀ x ∈ rs, x ∈ rs') ∧
      (∀ (p : Nat) d v, D[p]? = some d → d.o.op.reads = true → wantE (st p).1 d.o.guard = some true → pop cx (st p).1 (st p).2 d.o.op = some v → (d, (st p).1, v) ∈ rs')
  | [], j, e, H, s, hs, rs, e', H', s', hs', rs', h => by
    simp [evdops] at h
    obtain ⟨rfl, rfl, rfl, rfl, rfl⟩ := h
    exact ⟨fun _ => (e, H), rfl, fun p d hd => by simp at hd, rfl, fun x hx => by simp [hx], by simp, fun p d hd => by simp at hd, fun x hx => hx, fun p d v hd => by simp at hd⟩
  | d :: D, j, e, H, s, hs, rs, e', H', s', hs', rs', h => by
    simp only [evdops, Option.bind_eq_some_iff] at h
    obtain ⟨⟨e1, H1, s1⟩, h1, h2⟩ := h
    obtain ⟨st, t1, t2, t3, t4, t5, t6, t7, t8⟩ := evdops_trace D (j + 1) e1 H1 _ _ _ e' H' s' hs' rs' h2
    refine ⟨fun p => match p with | 0 => (e, H) | p + 1 => st p, rfl, ?_, t3, ?_, ?_, ?_, ?_, ?_⟩
    · intro p d' hd
      cases p with
      | zero => simp at hd; subst hd; exact ⟨s1, by simp [t1, h1]⟩
      | succ p => exact t2 p d' (by simpa using hd)
    · intro x hx
      exact t4 x (by split <;> simp [hx])
    · have : j + (d :: D).length = j + 1 + D.length := by simp; omega
      rw [this]; exact t5
    · intro p d' hd he
      cases p with
      | zero => simp at hd; subst hd; exact t4 _ (by simp [he])
      | succ p =>
        have := t6 p d' (by simpa using hd) he
        rwa [show j + 1 + p = j + (p + 1) by omega] at this
    · intro x hx
      refine t7 x ?_
      split
      · split <;> simp [hx]
      · exact hx
    · intro p d' v hd hr hw' hp
      cases p with
      | zero =>
        simp at hd; subst hd
        refine t7 _ ?_
        simp only at hw' hp
        simp [hr, hw', hp]
      | succ p => exact t8 p d' v (by simpa using hd) hr hw' hp

/-- What a checker finds of a region that draws its order. -/
structure DOK (P : Program) (ops : Array Oper) (N : Nat) (D : List DOper) (B : Nat → List Nat) : Prop where
  inj : ∀ (p p' : Nat) d d', D[p]? = some d → D[p']? = some d' → d.i = d'.i → p = p'
  lt : ∀ (p : Nat) d, D[p]? = some d → d.i < ops.size
  surj : ∀ i, i < ops.size → ∃ (p : Nat) (d : DOper), D[p]? = some d ∧ d.i = i
  op : ∀ (p : Nat) d, D[p]? = some d → ∃ o, ops[d.i]? = some o ∧ chkOper P ops N o d.o = true
  bef : ∀ (i : Nat) o, ops[i]? = some o → ∀ x ∈ B i, ∃ ed ∈ o.after.toList, Region.binds .any ed = true ∧ (ed.on = x ∨ x ∈ B ed.on)
  lin : ∀ (p : Nat) d o, D[p]? = some d → ops[d.i]? = some o → ∀ ed ∈ o.after.toList, Region.binds .any ed = true → ∃ (p' : Nat) (d' : DOper), p' < p ∧ D[p']? = some d' ∧ d'.i = ed.on
  uniq : ∀ (p p' : Nat) d d' t, D[p]? = some d → D[p']? = some d' → d.o.dst = some t → d'.o.dst = some t → p = p'
  dep : ∀ (p p' : Nat) d d' t, D[p]? = some d → D[p']? = some d' → p ≠ p' → d.o.dst = some t → t ∈ d'.o.uses → (p < p' ∧ d.i ∈ B d'.i) ∨ (p' < p ∧ d'.i ∈ B d.i)
  eff : ∀ (p : Nat) d, D[p]? = some d → (d.o.op.isH = true → d.eff = true ∨ d.o.op.isAl = true) ∧ (d.o.op.isH = false → d.eff = false)
  tot : ∀ (p p' : Nat) d d', D[p]? = some d → D[p']? = some d' → p < p' → d.eff = true → d'.eff = true → d.i ∈ B d'.i
  al : ∀ (p p' : Nat) d d', D[p]? = some d → D[p']? = some d' → p < p' → d.eff = true → d'.o.op.isH = true → d.i ∈ B d'.i
  rd : ∀ (p : Nat) d, D[p]? = some d → d.o.op.reads = true → d.lo ≤ D.length ∧ (∀ (p' : Nat) d', p' < d.lo → D[p']? = some d' → d'.eff = true → d'.i ∈ B d.i) ∧ (D.length ≤ d.hi ∨ ∃ d', D[d.hi]? = some d' ∧ d'.eff = true ∧ d.i ∈ B d'.i)

end Go.Lim
