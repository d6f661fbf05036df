/- The E machine: soundness of the operations that turn the heap. -/
import Derived.Test.YtalahofbjnmndaaDoorLimH
import Derived.ArgAppend
import Derived.Laws.CopyRow
set_option linter.unusedVariables false
set_option linter.unusedSimpArgs false
namespace Go.Lim
open Go.RowKit
variable {P : Program} {m : Em} {H : Heap} {w : World}

/-- The outcome of an operation. -/
def HFits (P : Program) (m : Em) (H : Heap) (w : World) (s : Sem Value) (v : AV) (H' : Heap) : Prop :=
  ∃ r m' w', s.run P w = .ok r w' ∧ VR m' w' v r ∧ Le m w m' w' ∧ WRel m' H' w' ∧ Pend m H m' H'
theorem Fits.h {s : Sem Value} {v : AV} (h : Fits P m H w s v) : HFits P m H w s v H := by
  obtain ⟨r, m', w', h1, h2, h3, h4, h5⟩ := h
  exact ⟨r, m', w', h1, h2, h3, h4, ⟨Nat.le_refl _, fun id hp => ⟨rfl, by rw [h5]; exact hp⟩⟩⟩

/-- A new object, with a new block, of which some cells are stable. -/
def Em.add (m : Em) (e : Ent) (b n : Nat) : Em := { m with ents := m.ents ++ [e], St := fun b' o => m.St b' o ∨ (b' = b ∧ o < n) }

theorem push_obj {w' : World} {ob : Go.Obj} {o : Obj} {e : Ent} {n : Nat} (hw : WRel m H w) (hh : w'.heap = w.heap.push ob) (ht : w'.tape = w.tape) (hos : w'.os = w.os) (hp : w'.output = w.output)
    (he : entBlk e = some w.heap.size) (hc : ∀ j, j < n → ∃ v, w'.cell? ⟨w.heap.size, j, none⟩ = some v) (hn : Ext m (m.add e w.heap.size n) w w' → ObjR (m.add e w.heap.size n) w' o e) :
    Le m w (m.add e w.heap.size n) w' ∧ WRel (m.add e w.heap.size n) (H ++ [o]) w' ∧ Pend m H (m.add e w.heap.size n) (H ++ [o]) := by
  have hx : Ext m (m.add e w.heap.size n) w w' := ⟨rfl, fun id e' h => ⟨e', by
    simp only [Em.add]
    rw [List.getElem?_append_left (List.getElem?_eq_some_iff.1 h).1]; exact h, EntLe.refl e'⟩, fun b o hs => .inl hs, fun b o hs => cell_of_heap (heap_push_old hh (hw.st_lt hs)) o⟩
  have hget : ∀ (id : Nat) (o' : Obj) (e' : Ent), (H ++ [o])[id]? = some o' → (m.add e w.heap.size n).ents[id]? = some e' → (H[id]? = some o' ∧ m.ents[id]? = some e') ∨ (id = H.length ∧ o' = o ∧ e' = e) := by
    intro id o' e' h1 h2
    simp only [Em.add] at h2
    rcases Nat.lt_or_ge id H.length with hl | hl
    · rw [List.getElem?_append_left hl] at h1
      rw [List.getElem?_append_left (by rw [hw.len]; exact hl)] at h2
      exact .inl ⟨h1, h2⟩
    · rw [List.getElem?_append_right hl] at h1
      rw [List.getElem?_append_right (by rw [hw.len]; exact hl), hw.len] at h2
      have : id - H.length = 0 := by
        rcases Nat.eq_zero_or_pos (id - H.length) with h | h
        · exact h
        · rw [List.getElem?_eq_none (by simp; omega)] at h1; simp at h1
      rw [this] at h1 h2
      simp at h1 h2
      exact .inr ⟨by omega, h1.symm, h2.symm⟩
  refine ⟨⟨hx, ⟨hos, ht, hp, by rw [hh]; simp, fun k hk => heap_push_old hh (Nat.lt_of_lt_of_le hk hw.size)⟩⟩, ⟨by simp [Em.add, hw.len], ?_, ?_, ?_, by rw [hh]; have := hw.size; simp [Em.add]; omega⟩, ?_⟩
  · intro id o' e' h1 h2
    rcases hget id o' e' h1 h2 with ⟨h1, h2⟩ | ⟨_, rfl, rfl⟩
    · have hob := hw.obj id o' e' h1 h2
      refine hob.keep hx ?_ ?_
      · intro hl b hb; exact heap_push_old hh (hob.blk_lt hl hb).1
      · intro hl b off hb hs
        rcases hs with hs | ⟨rfl, _⟩
        · exact hs
        · have := (hob.blk_lt hl hb).1; omega
    · exact hn hx
  · intro i j o1 o2 e1 e2 b h1 hl1 h2 hb1 h3 hl2 h4 hb2
    rcases hget i o1 e1 h1 h2 with ⟨g1, g2⟩ | ⟨q1, q2, q3⟩ <;> rcases hget j o2 e2 h3 h4 with ⟨g3, g4⟩ | ⟨p1, p2, p3⟩
    · exact hw.sep i j o1 o2 e1 e2 b g1 hl1 g2 hb1 g3 hl2 g4 hb2
    · rw [p3, he] at hb2; simp at hb2
      have := ((hw.obj i o1 e1 g1 g2).blk_lt hl1 hb1).1; omega
    · rw [q3, he] at hb1; simp at hb1
      have := ((hw.obj j o2 e2 g3 g4).blk_lt hl2 hb2).1; omega
    · rw [q1, p1]
  · intro b o' hs
    rcases hs with hs | ⟨rfl, hlt⟩
    · obtain ⟨v, hv⟩ := hw.st b o' hs
      exact ⟨v, by rw [cell_of_heap (heap_push_old hh (cell_lt hv))]; exact hv⟩
    · exact hc o' hlt
  · refine ⟨by simp, fun id hpd => ?_⟩
    have hl : id < m.ents.length := (List.getElem?_eq_some_iff.1 hpd).1
    refine ⟨List.getElem?_append_left (by rw [← hw.len]; exact hl), ?_⟩
    simp only [Em.add]
    rw [List.getElem?_append_left hl]; exact hpd

/-- The new object's place. -/
theorem add_ent (hw : WRel m H w) {e : Ent} {b n : Nat} : (m.add e b n).ents[H.length]? = some e := by
  simp only [Em.add]
  rw [List.getElem?_append_right (by rw [hw.len]; exact Nat.le_refl _), hw.len]
  simp

theorem new_box {w' : World} {c : Array Value} {E : TypeId} {cs : List AV} (hw : WRel m H w) (hh : w'.heap = w.heap.push (.cells c E (0, 0))) (ht : w'.tape = w.tape) (hos : w'.os = w.os) (hp : w'.output = w.output)
    (hv : VRL m w cs c.toList) : ∃ m', m'.ents[H.length]? = some (.obj w.heap.size) ∧ Le m w m' w' ∧ WRel m' (H ++ [.box cs]) w' ∧ Pend m H m' (H ++ [.box cs]) :=
  ⟨m.add (.obj w.heap.size) w.heap.size 0, add_ent hw, push_obj (n := 0) (o := .box cs) (e := .obj w.heap.size) hw hh ht hos hp rfl (fun j h => by omega) (fun hx =>
    ⟨hw.size, ⟨c, E, heap_push_new hh, hv.ext hx⟩, fun o hs => by
      rcases hs with hs | ⟨_, hlt⟩
      · have := hw.st_lt hs; omega
      · omega⟩)⟩

theorem allocE_sound {T : TypeId} {zero : List AV} {za : AV} (hw : WRel m H w) (hz : zeroIs P T za = true) (hzc : za.cells = zero) : HFits P m H w (Instr.alloc T true (.tuple #[])) (.ptr H.length 0) (H ++ [.box zero]) := by
  obtain ⟨iz, z, hi, hz1, hz2⟩ := zeroIs_some hz
  have hv := (chkV_sound (m := m) (w := w) _ _ hz2).cells
  rw [hzc] at hv
  obtain ⟨m', h1, h2, h3, h4⟩ := new_box (w' := w.alloc (.cells z.cells T)) (E := T) hw rfl rfl rfl rfl hv
  refine ⟨.pointer (some ⟨w.heap.size, 0, none⟩), m', w.alloc (.cells z.cells T), ?_, .ptr _ _ _ h1, h2, h3, h4⟩
  simp [Instr.alloc, run_zeroIs hi hz1, newVar, newRow, newObj, Sem.run]

theorem boxE_sound {T : TypeId} {v : AV} {r : Value} (hw : WRel m H w) (hv : VR m w v r) : HFits P m H w (Instr.box T r) (.ptr H.length 0) (H ++ [.box v.cells]) := by
  obtain ⟨m', h1, h2, h3, h4⟩ := new_box (w' := w.alloc (.cells r.cells T)) (E := T) hw rfl rfl rfl rfl hv.cells
  refine ⟨.pointer (some ⟨w.heap.size, 0, none⟩), m', w.alloc (.cells r.cells T), ?_, .ptr _ _ _ h1, h2, h3, h4⟩
  simp [Instr.box, newVar, newRow, newObj, Sem.run]

theorem mkmapE_sound {T : TypeId} (hw : WRel m H w) : HFits P m H w (Instr.makeMap T none) (.map H.length) (H ++ [.mp []]) := by
  have h := push_obj (w' := w.alloc (.map #[] 0)) (n := 0) (o := .mp []) (e := .obj w.heap.size) hw rfl rfl rfl rfl rfl (fun j h => by omega) (fun hx =>
    ⟨hw.size, ⟨#[], 0, heap_push_new (w := w) rfl, VRL.nil _ _, VRL.nil _ _, rfl, rfl⟩, fun o hs => by
      rcases hs with hs | ⟨_, hlt⟩
      · have := hw.st_lt hs; omega
      · omega⟩)
  exact ⟨.map (some w.heap.size), _, w.alloc (.map #[] 0), run_makeMap T w, .map _ _ (add_ent hw), h.1, h.2.1, h.2.2⟩

/-- A live object's block is turned, and with it what it is. -/
def Em.upd (m : Em) (id : Nat) (e : Ent) (b lo hi : Nat) : Em := { m with ents := m.ents.set id e, St := fun b' o => m.St b' o ∨ (b' = b ∧ lo ≤ o ∧ o < hi) }

theorem upd_obj {w' : World} {o o' : Obj} {e e' : Ent} {id b lo hi : Nat} (hw : WRel m H w) (hid : H[id]? = some o) (hlive : o.live = true) (he : m.ents[id]? = some e) (hb : entBlk e = some b)
    (hoth : ∀ k, k ≠ b → w'.heap[k]? = w.heap[k]?) (hsz : w'.heap.size = w.heap.size) (ht : w'.tape = w.tape) (hos : w'.os = w.os) (hp : w'.output = w.output)
    (hst : ∀ off, m.St b off → w'.cell? ⟨b, off, none⟩ = w.cell? ⟨b, off, none⟩) (hle : EntLe e e') (hb' : entBlk e' = some b) (hc : ∀ j, lo ≤ j → j < hi → ∃ v, w'.cell? ⟨b, j, none⟩ = some v)
    (hn : Ext m (m.upd id e' b lo hi) w w' → ObjR (m.upd id e' b lo hi) w' o' e') :
    Le m w (m.upd id e' b lo hi) w' ∧ WRel (m.upd id e' b lo hi) (H.set id o') w' ∧ Pend m H (m.upd id e' b lo hi) (H.set id o') := by
  have hidl : id < H.length := (List.getElem?_eq_some_iff.1 hid).1
  have hble := (hw.obj id o e hid he).blk_lt hlive hb
  have hcell : ∀ b' off, m.St b' off → w'.cell? ⟨b', off, none⟩ = w.cell? ⟨b', off, none⟩ := by
    intro b' off hs
    by_cases hbb : b' = b
    · subst hbb; exact hst off hs
    · exact cell_of_heap (hoth b' hbb) off
  have hx : Ext m (m.upd id e' b lo hi) w w' := ⟨rfl, fun i e1 h1 => by
    simp only [Em.upd]
    by_cases hi' : i = id
    · subst hi'
      rw [he] at h1; simp at h1; subst h1
      exact ⟨e', by rw [List.getElem?_set]; simp; rw [hw.len]; exact hidl, hle⟩
    · exact ⟨e1, by rw [List.getElem?_set, if_neg (Ne.symm hi')]; exact h1, EntLe.refl e1⟩, fun b o hs => .inl hs, hcell⟩
  have hget : ∀ (i : Nat) (o1 : Obj) (e1 : Ent), (H.set id o')[i]? = some o1 → (m.upd id e' b lo hi).ents[i]? = some e1 → (i ≠ id ∧ H[i]? = some o1 ∧ m.ents[i]? = some e1) ∨ (i = id ∧ o1 = o' ∧ e1 = e') := by
    intro i o1 e1 h1 h2
    simp only [Em.upd] at h2
    by_cases hi' : i = id
    · subst hi'
      rw [List.getElem?_set] at h1 h2
      simp at h1 h2
      exact .inr ⟨rfl, h1.2.symm, h2.2.symm⟩
    · rw [List.getElem?_set, if_neg (Ne.symm hi')] at h1 h2
      exact .inl ⟨hi', h1, h2⟩
  refine ⟨⟨hx, ⟨hos, ht, hp, by rw [hsz]; exact Nat.le_refl _, fun k hk => hoth k (by omega)⟩⟩, ⟨by simp [Em.upd, hw.len], ?_, ?_, ?_, by rw [hsz]; exact hw.size⟩, ?_⟩
  · intro i o1 e1 h1 h2
    rcases hget i o1 e1 h1 h2 with ⟨hne, g1, g2⟩ | ⟨_, q2, q3⟩
    · have hob := hw.obj i o1 e1 g1 g2
      have hbne : o1.live = true → ∀ b1, entBlk e1 = some b1 → b1 ≠ b := fun hl b1 hb1 heq => by
        subst heq
        exact hne (hw.sep i id o1 o e1 e b1 g1 hl g2 hb1 hid hlive he hb)
      refine hob.keep hx (fun hl b1 hb1 => hoth b1 (hbne hl b1 hb1)) ?_
      intro hl b1 off hb1 hs
      rcases hs with hs | ⟨rfl, _⟩
      · exact hs
      · exact absurd rfl (hbne hl _ hb1)
    · rw [q2, q3]; exact hn hx
  · intro i j o1 o2 e1 e2 b1 h1 hl1 h2 hb1 h3 hl2 h4 hb2
    rcases hget i o1 e1 h1 h2 with ⟨hn1, g1, g2⟩ | ⟨q1, q2, q3⟩ <;> rcases hget j o2 e2 h3 h4 with ⟨hn2, g3, g4⟩ | ⟨p1, p2, p3⟩
    · exact hw.sep i j o1 o2 e1 e2 b1 g1 hl1 g2 hb1 g3 hl2 g4 hb2
    · rw [p3, hb'] at hb2; simp at hb2; subst hb2
      rw [p1]; exact hw.sep i id o1 o e1 e b g1 hl1 g2 hb1 hid hlive he hb
    · rw [q3, hb'] at hb1; simp at hb1; subst hb1
      rw [q1]; exact (hw.sep j id o2 o e2 e b g3 hl2 g4 hb2 hid hlive he hb).symm
    · rw [q1, p1]
  · intro b' off hs
    rcases hs with hs | ⟨rfl, h1, h2⟩
    · obtain ⟨v, hv⟩ := hw.st b' off hs
      exact ⟨v, by rw [hcell b' off hs]; exact hv⟩
    · exact hc off h1 h2
  · refine ⟨by simp, fun i hpd => ?_⟩
    have hne : i ≠ id := by
      intro h; subst h
      rw [he] at hpd; simp at hpd; subst hpd
      simp [entBlk] at hb
    simp only [Em.upd]
    exact ⟨by rw [List.getElem?_set, if_neg (Ne.symm hne)], by rw [List.getElem?_set, if_neg (Ne.symm hne)]; exact hpd⟩

/-- The whole of a live object is turned; nothing becomes stable. -/
theorem upd_same {w' : World} {o o' : Obj} {b id : Nat} (hw : WRel m H w) (hid : H[id]? = some o) (hlive : o.live = true) (he : m.ents[id]? = some (.obj b)) (hns : ∀ off, ¬ m.St b off)
    (hoth : ∀ k, k ≠ b → w'.heap[k]? = w.heap[k]?) (hsz : w'.heap.size = w.heap.size) (ht : w'.tape = w.tape) (hos : w'.os = w.os) (hp : w'.output = w.output)
    (hn : ∀ m', Ext m m' w w' → m'.B = m.B → (∀ off, ¬ m'.St b off) → ObjR m' w' o' (.obj b)) : ∃ m', Le m w m' w' ∧ WRel m' (H.set id o') w' ∧ Pend m H m' (H.set id o') := by
  have h := upd_obj (lo := 0) (hi := 0) (o' := o') (e' := .obj b) hw hid hlive he rfl hoth hsz ht hos hp (fun off hs => absurd hs (hns off)) (EntLe.refl _) rfl (fun j h1 h2 => by omega)
    (fun hx => hn _ hx rfl (fun off hs => by rcases hs with hs | ⟨_, h1, h2⟩; exact hns off hs; omega))
  exact ⟨_, h⟩

theorem size_setRow (w : World) (g : Nat) (cs : Array Value) : (w.setRow g cs).heap.size = w.heap.size := by simp [World.setRow]

theorem storeE_sound {T n : Nat} {a v u : AV} {ra rv : Value} {H' : Heap} {s : Esc} (hw : WRel m H w) (ha : VR m w a ra) (hv : VR m w v rv) (hs : sizeIs P T n = true) (h : storeE H n a v = some (u, H', s)) :
    ∃ m' w', (Instr.storeAt T ra rv).run P w = .ok () w' ∧ u = undf ∧ Le m w m' w' ∧ WRel m' H' w' ∧ Pend m H m' H' := by
  cases ha with
  | ptr id off blk he =>
    simp only [storeE] at h
    split at h <;> try (simp at h; done)
    rename_i cs hH
    split at h <;> try (simp at h; done)
    rename_i hcond
    simp only [Option.bind_eq_some_iff] at h
    obtain ⟨cs', h1, h2⟩ := h
    simp at h2
    obtain ⟨rfl, rfl, rfl⟩ := h2
    obtain ⟨h3, h4⟩ := wrc_some h1
    obtain ⟨hB, ⟨c, E, hc, hcv⟩, hns⟩ := hw.box hH he
    have hvc := hv.cells
    have hlen : rv.cells.toList.length = v.cells.length := hvc.1.symm
    have hone : ∀ x ∈ rv.cells.toList, x.oneCell' = true := by
      intro x hx
      obtain ⟨j, hj, rfl⟩ := List.getElem_of_mem hx
      have hj' : j < v.cells.length := by rw [← hlen]; exact hj
      exact (hvc.2 j v.cells[j] _ (List.getElem?_eq_getElem hj') (List.getElem?_eq_getElem hj)).one (List.all_eq_true.1 hcond.2 _ (List.getElem_mem hj'))
    have hcs : c.size = cs.length := by have := hcv.1; simpa using this.symm
    have hrun := run_storeCells_at (P := P) blk off E rv.cells.toList 0 c w hc (by rw [hlen]; omega) hone
    simp only [Nat.add_zero] at hrun
    have hst : (Instr.storeAt T (.pointer (some ⟨blk, off, none⟩)) rv).run P w = .ok () (w.setRow blk (c.toList.take off ++ rv.cells.toList ++ c.toList.drop (off + rv.cells.toList.length)).toArray) := by
      have hsz : rv.cells.size = n := by rw [← hcond.1, ← hlen]; simp
      simp only [Instr.storeAt, Instr.sureAddr, storeVar, Sem.run_bind, Sem.run_pure, Result.andThen_ok, run_sizeIs hs, hsz, ne_eq, not_true, if_false]
      exact hrun
    obtain ⟨m', h5, h6, h7⟩ := upd_same (w' := w.setRow blk (c.toList.take off ++ rv.cells.toList ++ c.toList.drop (off + rv.cells.toList.length)).toArray) (o' := .box cs') hw hH rfl he hns
      (fun k hk => setRow_other w blk k _ hk) (size_setRow _ _ _) rfl rfl rfl (fun m' hx hBB hns' => ⟨hBB ▸ hB, ⟨_, E, setRow_heap w blk c _ E _ hc, by
        rw [h4, List.append_assoc, hlen]
        have := (((hcv.take off).append (hvc.append (hcv.drop (off + v.cells.length))))).ext hx
        rw [hlen] at this
        simpa only [List.append_assoc] using this⟩, hns'⟩)
    exact ⟨m', _, hst, rfl, h5, h6, h7⟩
  | _ => simp [storeE] at h

theorem mapFind_some {kk : KK} {k : AV} : ∀ {es : List (AV × AV)} {j : Nat}, mapFind kk k es = some (some j) → ∃ x, es[j]? = some x ∧ keyEq kk k x.1 = some true
  | [], j, h => by simp [mapFind] at h
  | (a, b) :: es, j, h => by
    simp only [mapFind, Option.bind_eq_some_iff] at h
    obtain ⟨e, h1, h2⟩ := h
    cases e with
    | true => simp at h2; subst h2; exact ⟨(a, b), rfl, h1⟩
    | false =>
      simp only [Bool.false_eq_true, if_false, Option.map_eq_some_iff] at h2
      obtain ⟨r, h3, h4⟩ := h2
      cases r with
      | none => simp at h4
      | some i =>
        simp at h4; subst h4
        obtain ⟨x, h5, h6⟩ := mapFind_some h3
        exact ⟨x, by simpa using h5, h6⟩

theorem VRL.set {cs : List AV} {rs : List Value} {v : AV} {r : Value} (h : VRL m w cs rs) (hv : VR m w v r) (j : Nat) : VRL m w (cs.set j v) (rs.set j r) := by
  refine ⟨by simp [h.1], fun i x y h1 h2 => ?_⟩
  rw [List.getElem?_set] at h1 h2
  split at h1
  · rename_i hij; subst hij
    simp only [if_true] at h2
    split at h1 <;> simp at h1
    split at h2 <;> simp at h2
    subst h1; subst h2; exact hv
  · rename_i hij; simp only [hij, if_false] at h2; exact h.2 i x y h1 h2

theorem MB.push {ms : Array MapEntry} {ck : Nat} (h : MB ms ck) (k v : Value) : MB (ms.push { key := k, val := v, born := ck }) (ck + 1) := by
  obtain ⟨h1, h2⟩ := h
  subst h2
  exact ⟨by simp [h1, List.range_succ], by simp⟩
theorem MB.mod {ms : Array MapEntry} {ck : Nat} (h : MB ms ck) (j : Nat) (f : MapEntry → MapEntry) (hf : ∀ e, (f e).born = e.born) : MB (ms.modify j f) ck := by
  obtain ⟨h1, h2⟩ := h
  refine ⟨?_, by simp [h2]⟩
  rw [Array.toList_modify, Array.size_modify, ← h1]
  apply List.ext_getElem?
  intro i
  rw [List.getElem?_map, List.getElem?_modify, List.getElem?_map]
  by_cases hij : j = i
  · simp only [hij, if_true]; cases ms.toList[i]? <;> simp [hf]
  · simp only [hij, if_false]; cases ms.toList[i]? <;> simp
theorem MB.born {ms : Array MapEntry} {ck : Nat} (h : MB ms ck) {j : Nat} (hj : j < ms.size) : (ms[j]).born = j := by
  have h1 : (ms.toList.map (·.born))[j]? = some j := by rw [h.1]; exact List.getElem?_range hj
  simpa [hj] using h1
theorem MB.find {ms : Array MapEntry} {ck : Nat} (h : MB ms ck) {j : Nat} (hj : j < ms.size) : ms.findIdx? (fun e => (e.born : Int) == (j : Int)) = some j := by
  rw [Array.findIdx?_eq_some_iff_getElem]
  refine ⟨hj, by rw [h.born hj]; simp, fun i hi => ?_⟩
  rw [h.born (by omega)]
  simp; omega

theorem mapupdE_sound {T kt et : TypeId} {kk : KK} {a k v u : AV} {ra rk rv : Value} {H' : Heap} {s : Esc} (hw : WRel m H w) (ha : VR m w a ra) (hk : VR m w k rk) (hv : VR m w v rv)
    (hT : P.underlying T = some (.map kt et)) (hkt : keyT P kt kk = true) (h : mapupdE H kk a k v = some (u, H', s)) :
    ∃ m' w', (Instr.mapUpdate T ra rk rv).run P w = .ok () w' ∧ u = undf ∧ Le m w m' w' ∧ WRel m' H' w' ∧ Pend m H m' H' := by
  cases ha with
  | map id blk hb =>
    simp only [mapupdE] at h
    split at h <;> try (simp at h; done)
    rename_i es hH
    split at h <;> try (simp at h; done)
    rename_i hcond
    simp only [Option.bind_eq_some_iff] at h
    obtain ⟨es', h1, h2⟩ := h
    simp at h2
    obtain ⟨rfl, rfl, rfl⟩ := h2
    simp only [mapSet, Option.map_eq_some_iff] at h1
    obtain ⟨ri, h3, h4⟩ := h1
    obtain ⟨hB, ⟨ms, ck, hm, hks, hvs, hmb⟩, hns⟩ : ObjR m w (.mp es) (.obj blk) := hw.obj id _ _ hH hb
    have hf := findKey_run (P := P) (ms := ms.toList) hkt hk hks h3
    have hset : ∀ (o : Go.Obj) (k : Nat), k ≠ blk → ({ w with heap := w.heap.setIfInBounds blk o } : World).heap[k]? = w.heap[k]? := by
      intro o k hk
      show (w.heap.setIfInBounds blk o)[k]? = _
      rw [Array.getElem?_setIfInBounds_ne (Ne.symm hk)]
    have hlt : blk < w.heap.size := (Array.getElem?_eq_some_iff.1 hm).1
    have hnew : ∀ (o : Go.Obj), ({ w with heap := w.heap.setIfInBounds blk o } : World).heap[blk]? = some o := by
      intro o
      show (w.heap.setIfInBounds blk o)[blk]? = _
      simp [hlt]
    have hck := checkKey_run (P := P) (em := false) hkt hk hcond.1
    cases ri with
    | none =>
      simp at h4; subst h4
      simp at hf
      obtain ⟨m', h5, h6, h7⟩ := upd_same (w' := { w with heap := w.heap.setIfInBounds blk (.map (ms.push { key := rk, val := rv, born := ck }) (ck + 1)) }) (o' := .mp (es ++ [(k, v)])) hw hH rfl hb hns
        (hset _) (by simp) rfl rfl rfl (fun m' hx hBB hns' => ⟨hBB ▸ hB, ⟨_, _, hnew _, by
          have := (hks.append ((VRL.nil m w).cons hk)).ext hx
          simpa using this, by
          have := (hvs.append ((VRL.nil m w).cons hv)).ext hx
          simpa using this, hmb.push _ _⟩, hns'⟩)
      refine ⟨m', _, ?_, rfl, h5, h6, h7⟩
      simp [Instr.mapUpdate, run_underlying hT, getObj, Sem.run, hm, hck, hf, setObj]
    | some j =>
      simp at h4; subst h4
      obtain ⟨x, h8, h9⟩ := mapFind_some h3
      have hjs : j < es.length := (List.getElem?_eq_some_iff.1 h8).1
      have hjm : j < ms.size := by have := hks.1; simp at this; omega
      have hmj : ms[j]? = some ms[j] := Array.getElem?_eq_getElem hjm
      have hxk : VR m w x.1 (ms[j]).key := hks.2 j _ _ (by simp [h8]) (by simp [hjm])
      obtain ⟨he1, he2⟩ := keyEq_bits hk hxk h9
      have hkt' : (Instr.keyThatStays (ms[j]).key rk).run P w = .ok rk w := by
        rw [← he1] at he2 ⊢
        simp [Instr.keyThatStays, he2]
      have hmod : (ms.modify j fun e => { e with key := rk, val := rv }).toList = ms.toList.set j { (ms[j]) with key := rk, val := rv } := by
        rw [Array.toList_modify]
        apply List.ext_getElem?
        intro i
        rw [List.getElem?_modify, List.getElem?_set]
        by_cases hij : j = i
        · subst hij; simp [hjm]
        · simp [hij]
      obtain ⟨m', h5, h6, h7⟩ := upd_same (w' := { w with heap := w.heap.setIfInBounds blk (.map (ms.modify j fun e => { e with key := rk, val := rv }) ck) }) (o' := .mp (es.set j (k, v))) hw hH rfl hb hns
        (hset _) (by simp) rfl rfl rfl (fun m' hx hBB hns' => ⟨hBB ▸ hB, ⟨_, _, hnew _, by
          have := (hks.set hk j).ext hx
          rw [hmod]
          simpa [List.map_set] using this, by
          have := (hvs.set hv j).ext hx
          rw [hmod]
          simpa [List.map_set] using this, hmb.mod _ _ (fun _ => rfl)⟩, hns'⟩)
      refine ⟨m', _, ?_, rfl, h5, h6, h7⟩
      simp only [Option.map_some] at hf
      simp [Instr.mapUpdate, run_underlying hT, getObj, Sem.run, hm, hck, hf, hmj, hkt', setObj]
  | _ => simp [mapupdE] at h

theorem run_zeroValue {t : TypeId} {i : TypeInfo} {z : Value} (hi : P.info? t = some i) (hz : i.zero = some z) (w : World) : (zeroValue t).run P w = .ok z w := by
  simp [zeroValue, typeInfo, hi, hz]

theorem mapentE_sound {T kt et : TypeId} {kk : KK} {zero a k v : AV} {ra rk : Value} {H' : Heap} {s : Esc} (hw : WRel m H w) (ha : VR m w a ra) (hk : VR m w k rk)
    (hT : P.underlying T = some (.map kt et)) (hkt : keyT P kt kk = true) (hzero : zeroIs P et zero = true) (h : mapentE H kk zero a k = some (v, H', s)) :
    HFits P m H w (Instr.mapEntry T ra rk) v H' := by
  obtain ⟨iz, z, hi, hz1, hz2⟩ := zeroIs_some hzero
  have hzv : VR m w zero z := chkV_sound _ _ hz2
  cases ha with
  | map id blk hb =>
    simp only [mapentE] at h
    split at h <;> try (simp at h; done)
    rename_i es hH
    split at h <;> try (simp at h; done)
    rename_i hcond
    simp only [Option.bind_eq_some_iff] at h
    obtain ⟨ri, h3, h4⟩ := h
    obtain ⟨hB, ⟨ms, ck, hm, hks, hvs, hmb⟩, hns⟩ : ObjR m w (.mp es) (.obj blk) := hw.obj id _ _ hH hb
    have hf := findKey_run (P := P) (ms := ms.toList) hkt hk hks h3
    have hsz : es.length = ms.size := by have := hks.1; simpa using this
    have hset : ∀ (o : Go.Obj) (k : Nat), k ≠ blk → ({ w with heap := w.heap.setIfInBounds blk o } : World).heap[k]? = w.heap[k]? := by
      intro o k hk
      show (w.heap.setIfInBounds blk o)[k]? = _
      rw [Array.getElem?_setIfInBounds_ne (Ne.symm hk)]
    have hlt : blk < w.heap.size := (Array.getElem?_eq_some_iff.1 hm).1
    have hnew : ∀ (o : Go.Obj), ({ w with heap := w.heap.setIfInBounds blk o } : World).heap[blk]? = some o := by
      intro o
      show (w.heap.setIfInBounds blk o)[blk]? = _
      simp [hlt]
    have hck := checkKey_run (P := P) (em := false) hkt hk hcond.1
    cases ri with
    | none =>
      simp at h4
      obtain ⟨rfl, rfl, rfl⟩ := h4
      simp at hf
      obtain ⟨m', h5, h6, h7⟩ := upd_same (w' := { w with heap := w.heap.setIfInBounds blk (.map (ms.push { key := rk, val := z, born := ck }) (ck + 1)) }) (o' := .mp (es ++ [(k, zero)])) hw hH rfl hb hns
        (hset _) (by simp) rfl rfl rfl (fun m' hx hBB hns' => ⟨hBB ▸ hB, ⟨_, _, hnew _, by
          have := (hks.append ((VRL.nil m w).cons hk)).ext hx
          simpa using this, by
          have := (hvs.append ((VRL.nil m w).cons hzv)).ext hx
          simpa using this, hmb.push _ _⟩, hns'⟩)
      refine ⟨.tuple #[z, goInt ck], m', _, ?_, ?_, h5, h6, h7⟩
      · simp [Instr.mapEntry, run_underlying hT, getObj, Sem.run, hm, hck, hf, setObj, zeroValue, typeInfo, hi, hz1]
      · refine .tup _ _ rfl (fun j p q hp hq => ?_)
        match j with
        | 0 => simp at hp hq; subst hp; subst hq; exact hzv.ext h5.ext
        | 1 => simp at hp hq; subst hp; subst hq; rw [hmb.2, ← hsz]; exact .int _ _
        | j + 2 => simp at hp
    | some j =>
      simp only [Option.bind_eq_some_iff] at h4
      obtain ⟨x', h8', h4⟩ := h4
      simp at h4
      obtain ⟨rfl, rfl, rfl⟩ := h4
      obtain ⟨x, h8, h9⟩ := mapFind_some h3
      rw [h8] at h8'; simp at h8'; subst h8'
      have hjs : j < es.length := (List.getElem?_eq_some_iff.1 h8).1
      have hjm : j < ms.size := by omega
      have hmj : ms[j]? = some ms[j] := Array.getElem?_eq_getElem hjm
      have hxk : VR m w x.1 (ms[j]).key := hks.2 j _ _ (by simp [h8]) (by simp [hjm])
      have hxv : VR m w x.2 (ms[j]).val := hvs.2 j _ _ (by simp [h8]) (by simp [hjm])
      obtain ⟨he1, he2⟩ := keyEq_bits hk hxk h9
      have hkt' : (Instr.keyThatStays (ms[j]).key rk).run P w = .ok rk w := by
        rw [← he1] at he2 ⊢
        simp [Instr.keyThatStays, he2]
      have hmod : (ms.modify j fun e => { e with key := rk }).toList = ms.toList.set j { (ms[j]) with key := rk } := by
        rw [Array.toList_modify]
        apply List.ext_getElem?
        intro i
        rw [List.getElem?_modify, List.getElem?_set]
        by_cases hij : j = i
        · subst hij; simp [hjm]
        · simp [hij]
      obtain ⟨m', h5, h6, h7⟩ := upd_same (w' := { w with heap := w.heap.setIfInBounds blk (.map (ms.modify j fun e => { e with key := rk }) ck) }) (o' := .mp (es.set j (k, x.2))) hw hH rfl hb hns
        (hset _) (by simp) rfl rfl rfl (fun m' hx hBB hns' => ⟨hBB ▸ hB, ⟨_, _, hnew _, by
          have := (hks.set hk j).ext hx
          rw [hmod]
          simpa [List.map_set] using this, by
          have := (hvs.set hxv j).ext hx
          rw [hmod]
          simpa [List.map_set] using this, hmb.mod _ _ (fun _ => rfl)⟩, hns'⟩)
      refine ⟨.tuple #[(ms[j]).val, goInt j], m', _, ?_, ?_, h5, h6, h7⟩
      · simp only [Option.map_some] at hf
        rw [List.getD_eq_getElem?_getD, List.getElem?_eq_getElem (by simpa using hjm)] at hf
        simp at hf
        have hbn := hmb.born hjm
        simp [Instr.mapEntry, run_underlying hT, getObj, Sem.run, hm, hck, hf, hmj, hkt', setObj, hbn]
      · refine .tup _ _ rfl (fun i p q hp hq => ?_)
        match i with
        | 0 => simp at hp hq; subst hp; subst hq; exact hxv.ext h5.ext
        | 1 => simp at hp hq; subst hp; subst hq; exact .int _ _
        | i + 2 => simp at hp
  | _ => simp [mapentE] at h

theorem entstE_sound {T : TypeId} {a b c u : AV} {ra rb rc : Value} {H' : Heap} {s : Esc} (hw : WRel m H w) (ha : VR m w a ra) (hb' : VR m w b rb) (hv : VR m w c rc)
    (h : entstE H a b c = some (u, H', s)) :
    ∃ m' w', (Instr.entryStore T ra rb rc).run P w = .ok () w' ∧ u = undf ∧ Le m w m' w' ∧ WRel m' H' w' ∧ Pend m H m' H' := by
  cases ha with
  | map id blk hb =>
    cases b <;> try (simp [entstE] at h; done)
    rename_i k n
    cases k <;> try (simp [entstE] at h; done)
    simp only [entstE] at h
    split at h <;> try (simp at h; done)
    rename_i es hH
    split at h <;> try (simp at h; done)
    rename_i hcond
    simp only [Option.bind_eq_some_iff] at h
    obtain ⟨x, h8, h2⟩ := h
    simp at h2
    obtain ⟨rfl, rfl, rfl⟩ := h2
    obtain ⟨j, rfl⟩ := Int.eq_ofNat_of_zero_le hcond.1
    simp only [Int.toNat_natCast] at h8 ⊢
    cases hb'
    obtain ⟨hB, ⟨ms, ck, hm, hks, hvs, hmb⟩, hns⟩ : ObjR m w (.mp es) (.obj blk) := hw.obj id _ _ hH hb
    have hset : ∀ (o : Go.Obj) (k : Nat), k ≠ blk → ({ w with heap := w.heap.setIfInBounds blk o } : World).heap[k]? = w.heap[k]? := by
      intro o k hk
      show (w.heap.setIfInBounds blk o)[k]? = _
      rw [Array.getElem?_setIfInBounds_ne (Ne.symm hk)]
    have hlt : blk < w.heap.size := (Array.getElem?_eq_some_iff.1 hm).1
    have hnew : ∀ (o : Go.Obj), ({ w with heap := w.heap.setIfInBounds blk o } : World).heap[blk]? = some o := by
      intro o
      show (w.heap.setIfInBounds blk o)[blk]? = _
      simp [hlt]
    have hjs : j < es.length := (List.getElem?_eq_some_iff.1 h8).1
    have hjm : j < ms.size := by have := hks.1; simp at this; omega
    have hxk : VR m w x.1 (ms[j]).key := hks.2 j _ _ (by simp [h8]) (by simp [hjm])
    have hmod : (ms.modify j fun e => { e with val := rc }).toList = ms.toList.set j { (ms[j]) with val := rc } := by
      rw [Array.toList_modify]
      apply List.ext_getElem?
      intro i
      rw [List.getElem?_modify, List.getElem?_set]
      by_cases hij : j = i
      · subst hij; simp [hjm]
      · simp [hij]
    obtain ⟨m', h5, h6, h7⟩ := upd_same (w' := { w with heap := w.heap.setIfInBounds blk (.map (ms.modify j fun e => { e with val := rc }) ck) }) (o' := .mp (es.set j (x.1, c))) hw hH rfl hb hns
      (hset _) (by simp) rfl rfl rfl (fun m' hx hBB hns' => ⟨hBB ▸ hB, ⟨_, _, hnew _, by
        have := (hks.set hxk j).ext hx
        rw [hmod]
        simpa [List.map_set] using this, by
        have := (hvs.set hv j).ext hx
        rw [hmod]
        simpa [List.map_set] using this, hmb.mod _ _ (fun _ => rfl)⟩, hns'⟩)
    refine ⟨m', _, ?_, trivial, h5, h6, h7⟩
    have hfd := hmb.find hjm
    simp [Instr.entryStore, getObj, Sem.run, hm, setObj, asInt, asIntOf, hfd]
  | _ => simp [entstE] at h

end Go.Lim
