/- The E machine: what a call hands back; calls. -/
import Derived.Test.YtalahofbjnmndaaDoorLimS
set_option linter.unusedVariables false
set_option linter.unusedSimpArgs false
namespace Go.Lim
open Go.RowKit
variable {P : Program} {m : Em} {H : Heap} {w : World}

theorem lt_cells {n : Nat} {z : AV} : AV.lt n z = true ↔ ∀ x ∈ z.cells, AV.lt n x = true := by
  cases z <;> first | (simp only [AV.cells, AV.lt, ltL_iff]; done) | simp [AV.cells]
theorem lt_flat {n : Nat} {es : List AV} : AV.ltL n es = true ↔ ∀ x ∈ AV.flat es, AV.lt n x = true := by
  induction es with
  | nil => simp [AV.ltL, AV.flat]
  | cons e r ih =>
    simp only [AV.ltL, AV.flat, Bool.and_eq_true, ih, lt_cells (z := e), List.mem_append]
    constructor
    · rintro ⟨h1, h2⟩ x (hx | hx)
      · exact h1 x hx
      · exact h2 x hx
    · intro h; exact ⟨fun x hx => h x (.inl hx), fun x hx => h x (.inr hx)⟩

theorem VR.lt {v : AV} {r : Value} (h : VR m w v r) : AV.lt m.ents.length v = true := by
  have mem : ∀ {cs : List AV}, (∀ (j : Nat) v, cs[j]? = some v → AV.lt m.ents.length v = true) → ∀ x ∈ cs, AV.lt m.ents.length x = true := by
    intro cs hcs x hx
    obtain ⟨j, hj, rfl⟩ := List.getElem_of_mem hx
    exact hcs j _ (List.getElem?_eq_getElem hj)
  induction h with
  | ptr id off blk he => simp [AV.lt]; exact (List.getElem?_eq_some_iff.1 he).1
  | arr id off len sz ag a cap blk he hl ha => simp [AV.lt]; exact (List.getElem?_eq_some_iff.1 he).1
  | map id blk he => simp [AV.lt]; exact (List.getElem?_eq_some_iff.1 he).1
  | rop cs off b o r hc _ ih => simp only [AV.lt]; exact ltL_iff.2 (mem ih)
  | slcN tk ht => rcases ht with rfl | rfl <;> rfl
  | slcE a c => rfl
  | slc tk es b o cap sz r hle hs hc _ ht ih =>
    simp only [AV.lt, Bool.and_eq_true]
    refine ⟨?_, lt_flat.2 (mem ih)⟩
    cases tk <;> simp
    obtain ⟨blk, f, c', s, he, _⟩ := ht
    exact (List.getElem?_eq_some_iff.1 he).1
  | fn f cs rs hl _ ih => simp only [AV.lt]; exact ltL_iff.2 (mem fun j v hv => ih j v (rs[j]'(by rw [← hl]; exact (List.getElem?_eq_some_iff.1 hv).1)) hv (List.getElem?_eq_getElem _))
  | agg cs rs hl _ ih => simp only [AV.lt]; exact ltL_iff.2 (mem fun j v hv => ih j v (rs[j]'(by rw [← hl]; exact (List.getElem?_eq_some_iff.1 hv).1)) hv (List.getElem?_eq_getElem _))
  | tup cs rs hl _ ih => simp only [AV.lt]; exact ltL_iff.2 (mem fun j v hv => ih j v (rs[j]'(by rw [← hl]; exact (List.getElem?_eq_some_iff.1 hv).1)) hv (List.getElem?_eq_getElem _))
  | ifc t v r _ ih => simp only [AV.lt]; exact ih
  | _ => rfl
theorem VRL.lt {cs : List AV} {rs : List Value} (h : VRL m w cs rs) : AV.ltL m.ents.length cs = true := by
  rw [ltL_iff]
  intro x hx
  obtain ⟨j, hj, rfl⟩ := List.getElem_of_mem hx
  exact (h.2 j _ _ (List.getElem?_eq_getElem hj) (List.getElem?_eq_getElem (by rw [← h.1]; exact hj))).lt

/-- Only the first n objects are kept; more may be stable. -/
theorem VR.trunc {n : Nat} {St : Nat → Nat → Prop} (hS : ∀ b o, m.St b o → St b o) {v : AV} {r : Value} (h : VR m w v r) (hl : AV.lt n v = true) : VR ⟨m.B, m.ents.take n, St⟩ w v r := by
  have tk : ∀ {id : Nat} {e : Ent}, id < n → m.ents[id]? = some e → (m.ents.take n)[id]? = some e := fun h1 h2 => by rw [List.getElem?_take, if_pos h1]; exact h2
  induction h with
  | bool b => exact .bool b
  | int k q => exact .int k q
  | flt k a b hb => exact .flt k a b hb
  | cpx k a b c d h1 h2 => exact .cpx k a b c d h1 h2
  | str s => exact .str s
  | ptr id off blk he => exact .ptr id off blk (tk (by simpa [AV.lt] using hl) he)
  | nilp => exact .nilp
  | rop cs off b o r hc _ ih =>
    simp only [AV.lt] at hl
    exact .rop cs off b o r (fun j hj => ⟨hS _ _ (hc j hj).1, (hc j hj).2⟩) (fun j v hv => ih j v hv (ltL_iff.1 hl v (List.mem_of_getElem? hv)))
  | slcN t ht => exact .slcN t ht
  | slcE a c => exact .slcE a c
  | slc t es b o cap sz r hle hsz hc _ ht ih =>
    simp only [AV.lt, Bool.and_eq_true] at hl
    refine .slc t es b o cap sz r hle hsz (fun j hj => ⟨hS _ _ (hc j hj).1, (hc j hj).2⟩) (fun j v hv => ih j v hv (lt_flat.1 hl.2 v (List.mem_of_getElem? hv))) ?_
    cases t with
    | own t =>
      obtain ⟨blk, f, c', s, he, h1⟩ := ht
      exact ⟨blk, f, c', s, tk (by simpa using hl.1) he, h1⟩
    | _ => exact ht
  | arr id off len sz ag a cap blk he h1 ha => exact .arr id off len sz ag a cap blk (tk (by simpa [AV.lt] using hl) he) h1 ha
  | map id blk he => exact .map id blk (tk (by simpa [AV.lt] using hl) he)
  | nilm => exact .nilm
  | fn f cs rs h1 _ ih => simp only [AV.lt] at hl; exact .fn f cs rs h1 (fun j v r hv hr => ih j v r hv hr (ltL_iff.1 hl v (List.mem_of_getElem? hv)))
  | nilf => exact .nilf
  | ifc t v r _ ih => simp only [AV.lt] at hl; exact .ifc t v r (ih hl)
  | nili => exact .nili
  | agg cs rs h1 _ ih => simp only [AV.lt] at hl; exact .agg cs rs h1 (fun j v r hv hr => ih j v r hv hr (ltL_iff.1 hl v (List.mem_of_getElem? hv)))
  | tup cs rs h1 _ ih => simp only [AV.lt] at hl; exact .tup cs rs h1 (fun j v r hv hr => ih j v r hv hr (ltL_iff.1 hl v (List.mem_of_getElem? hv)))
theorem VRL.trunc {n : Nat} {St : Nat → Nat → Prop} (hS : ∀ b o, m.St b o → St b o) {cs : List AV} {rs : List Value} (h : VRL m w cs rs) (hl : AV.ltL n cs = true) : VRL ⟨m.B, m.ents.take n, St⟩ w cs rs :=
  ⟨h.1, fun j v r hv hr => (h.2 j v r hv hr).trunc hS (ltL_iff.1 hl v (List.mem_of_getElem? hv))⟩

/-! ### frozen -/
theorem stripL_map (n : Nat) (H : Heap) (vs : List AV) : stripL n H vs = vs.map (strip n H) := by
  induction vs with
  | nil => rfl
  | cons v r ih => simp [stripL, ih]

def StF (m : Em) (H : Heap) (n b o : Nat) : Prop := m.St b o ∨ ∃ id cs, n ≤ id ∧ H[id]? = some (Obj.box cs) ∧ m.ents[id]? = some (.obj b) ∧ o < cs.length

theorem cells_one {v : AV} (h : ∀ cs, v ≠ .agg cs) : v.cells = [v] := by
  cases v <;> first | rfl | exact absurd rfl (h _)
theorem strip_arr (n : Nat) (H : Heap) (id off len sz : Nat) (ag : Bool) (cs : List AV) : strip n H (.arr id off len sz ag) ≠ .agg cs := by
  simp only [strip]
  split
  · simp
  · split
    · split <;> simp
    · simp
theorem strip_slc (n : Nat) (H : Heap) (tk : Tok) (es : List AV) (cs : List AV) : strip n H (.slc tk es) ≠ .agg cs := by
  cases tk <;> simp only [strip] <;> first | (split <;> simp; done) | simp
theorem strip_cells (n : Nat) (H : Heap) (v : AV) : (strip n H v).cells = v.cells.map (strip n H) := by
  cases v with
  | agg cs => simp only [strip, AV.cells, stripL_map]
  | slc tk es => rw [cells_one (strip_slc n H tk es)]; rfl
  | arr id off len sz ag => rw [cells_one (strip_arr n H id off len sz ag)]; rfl
  | _ => rfl
theorem strip_flat (n : Nat) (H : Heap) (es : List AV) : AV.flat (es.map (strip n H)) = (AV.flat es).map (strip n H) := by
  induction es with
  | nil => rfl
  | cons e r ih => simp [AV.flat, ih, strip_cells]

theorem regroup_spec (sz : Nat) (ag : Bool) (hsz : 0 < sz) (hag : ag = true ∨ sz = 1) : ∀ (n : Nat) (cs : List AV), n * sz ≤ cs.length → (∀ c ∈ cs, c.one = true) →
    (regroup sz ag n cs).length = n ∧ AV.flat (regroup sz ag n cs) = cs.take (n * sz) ∧ ∀ e ∈ regroup sz ag n cs, e.cells.length = sz
  | 0, cs, _, _ => by simp [regroup, AV.flat]
  | n + 1, cs, h, h1 => by
    have hle : sz ≤ cs.length := by rw [Nat.add_mul] at h; omega
    obtain ⟨h2, h3, h4⟩ := regroup_spec sz ag hsz hag n (cs.drop sz) (by rw [Nat.add_mul] at h; simp; omega) (fun c hc => h1 c (List.mem_of_mem_drop hc))
    have hhead : (if ag = true then AV.agg (cs.take sz) else cs.headD .nilp).cells = cs.take sz := by
      cases ag with
      | true => simp [AV.cells]
      | false =>
        have hs1 : sz = 1 := by simpa using hag
        subst hs1
        cases cs with
        | nil => simp at hle
        | cons c r =>
          have hc := h1 c (by simp)
          simp only [Bool.false_eq_true, if_false, List.headD_cons, List.take_succ_cons, List.take_zero]
          cases c <;> simp [AV.one, AV.cells] at hc ⊢
    refine ⟨by simp [regroup, h2], ?_, ?_⟩
    · simp only [regroup, AV.flat, hhead, h3]
      rw [Nat.add_mul, Nat.one_mul, Nat.add_comm, List.take_add]
    · intro e he
      simp only [regroup, List.mem_cons] at he
      rcases he with rfl | he
      · rw [hhead]; simp; omega
      · exact h4 e he

theorem VR.strp (hw : WRel m H w) (n : Nat) {v : AV} {r : Value} (h : VR m w v r) : VR { m with St := StF m H n } w (strip n H v) r := by
  have hx : Ext m { m with St := StF m H n } w w := ⟨rfl, fun id e he => ⟨e, he, EntLe.refl e⟩, fun b o hs => .inl hs, fun _ _ _ => rfl⟩
  induction h with
  | slcN tk ht =>
    rcases ht with rfl | rfl
    · exact .slcN _ (.inl rfl)
    · exact .slcN _ (.inr rfl)
  | slcE a c => exact .slcE a c
  | slc tk es b o cap sz r hle hsz hc hv ht ih =>
    have gen : ∀ tk', TokOK m.ents tk' es.length (AV.flat es).length cap b o → VR { m with St := StF m H n } w (.slc tk' (es.map (strip n H))) (.slice (some ⟨b, o, none⟩) es.length cap) := by
      intro tk' ht'
      have := VR.slc (m := { m with St := StF m H n }) (w := w) tk' (es.map (strip n H)) b o cap sz r (by simpa using hle) (fun u hu => by
          simp only [List.mem_map] at hu
          obtain ⟨u', hu', rfl⟩ := hu
          rw [strip_cells]; simpa using hsz u' hu') (fun j hj => by
          rw [strip_flat] at hj
          simp only [List.length_map] at hj
          exact ⟨.inl (hc j hj).1, (hc j hj).2⟩) (fun j x hx' => by
          rw [strip_flat, List.getElem?_map, Option.map_eq_some_iff] at hx'
          obtain ⟨y, hy, rfl⟩ := hx'
          exact ih j y hy) (by rw [strip_flat]; simpa using ht')
      simpa using this
    cases tk with
    | own t =>
      simp only [strip, stripL_map]
      split
      · exact gen _ ht
      · exact gen .any trivial
    | nil => simp only [strip, stripL_map]; exact gen _ ht
    | any => simp only [strip, stripL_map]; exact gen _ ht
    | full => simp only [strip, stripL_map]; exact gen _ ht
  | arr id off len sz ag a cap blk he hl ha =>
    simp only [strip]
    split
    · exact .arr id off len sz ag a cap blk he hl ha
    · rename_i hid
      split
      · rename_i cs hH
        split
        · rename_i hcond
          simp only [Bool.and_eq_true, decide_eq_true_eq, Bool.or_eq_true] at hcond
          obtain ⟨⟨⟨h1, h2⟩, h3⟩, h4⟩ := hcond
          obtain ⟨hB, ⟨c, E, hc, hcv⟩, hns⟩ := hw.box hH he
          by_cases hl0 : len = 0
          · subst hl0
            simp only [regroup]
            exact .slcE _ _
          · have haa := ha (by omega)
            subst haa
            have hlen : ((cs.drop off).take (len * sz)).length = len * sz := by simp; omega
            obtain ⟨g1, g2, g3⟩ := regroup_spec sz ag h3 h4 len ((cs.drop off).take (len * sz)) (by rw [hlen]; exact Nat.le_refl _) (fun x hx' => List.all_eq_true.1 h2 x (List.mem_of_mem_drop (List.mem_of_mem_take hx')))
            rw [List.take_of_length_le (l := (cs.drop off).take (len * sz)) (by rw [hlen]; exact Nat.le_refl _)] at g2
            have hcl : c.toList.length = cs.length := hcv.1.symm
            have := VR.slc (m := { m with St := StF m H n }) (w := w) .any (regroup sz ag len ((cs.drop off).take (len * sz))) blk off cap sz (fun j => c.toList.getD (off + j) undef) (by rw [g1]; exact hl) g3
              (fun j hj => by
                rw [g2, hlen] at hj
                refine ⟨.inr ⟨id, cs, by omega, hH, he, by omega⟩, ?_⟩
                rw [cell_of_block hc, ← Array.getElem?_toList]
                simp only [List.getD_eq_getElem?_getD]
                rw [List.getElem?_eq_getElem (by omega)]; rfl)
              (fun j x hx' => by
                rw [g2, List.getElem?_take] at hx'
                split at hx' <;> try (simp at hx'; done)
                rename_i hj
                rw [List.getElem?_drop] at hx'
                have hlt : off + j < c.toList.length := by rw [hcl]; exact (List.getElem?_eq_some_iff.1 hx').1
                have := hcv.2 (off + j) x _ hx' (List.getElem?_eq_getElem hlt)
                simp only [List.getD_eq_getElem?_getD, List.getElem?_eq_getElem hlt, Option.getD_some]
                exact this.ext hx) trivial
            rw [g1] at this
            exact this
        · exact .arr id off len sz ag a cap blk he hl ha
      · exact .arr id off len sz ag a cap blk he hl ha
  | agg cs rs hl hv ih =>
    simp only [strip, stripL_map]
    refine .agg _ rs (by simpa using hl) (fun j v r h1 h2 => ?_)
    rw [List.getElem?_map, Option.map_eq_some_iff] at h1
    obtain ⟨y, hy, rfl⟩ := h1
    exact ih j y r hy h2
  | tup cs rs hl hv ih =>
    simp only [strip, stripL_map]
    refine .tup _ rs (by simpa using hl) (fun j v r h1 h2 => ?_)
    rw [List.getElem?_map, Option.map_eq_some_iff] at h1
    obtain ⟨y, hy, rfl⟩ := h1
    exact ih j y r hy h2
  | ifc t v r hv ih => simp only [strip]; exact .ifc t _ r ih
  | bool b => exact .bool b
  | int k q => exact .int k q
  | flt k a b hb => exact .flt k a b hb
  | cpx k a b c d h1 h2 => exact .cpx k a b c d h1 h2
  | str s => exact .str s
  | ptr id off blk he => exact .ptr id off blk he
  | nilp => exact .nilp
  | rop cs off b o r hc hv _ => exact (VR.rop cs off b o r hc hv).ext hx
  | map id blk he => exact .map id blk he
  | nilm => exact .nilm
  | fn f cs rs hl hv _ => exact (VR.fn f cs rs hl hv).ext hx
  | nilf => exact .nilf
  | nili => exact .nili

theorem fin_sound {m0 : Em} {H0 : Heap} {w0 : World} {r : AV} {rv : Value} {s s' : Esc} {v' : AV} {H' : Heap} (hw0 : WRel m0 H0 w0) (hw : WRel m H w) (hv : VR m w r rv) (hL : Le m0 w0 m w) (hP : Pend m0 H0 m H) (hE : EscP H0 H s)
    (h : fin H0.length r H s = (v', H', s')) : Outc m0 H0 w0 v' H' rv w ∧ EscP H0 H' s' := by
  unfold fin at h
  split at h
  · rename_i hcond
    simp only [Bool.and_eq_true] at hcond
    simp only [Prod.mk.injEq] at h
    obtain ⟨rfl, rfl, rfl⟩ := h
    have hn : H0.length ≤ H.length := hP.1
    let m' : Em := ⟨m.B, m.ents.take H0.length, StF m H H0.length⟩
    have hmono : ∀ b o, m.St b o → StF m H H0.length b o := fun b o hs => .inl hs
    have htk : ∀ {id : Nat} {e : Ent}, m'.ents[id]? = some e → id < H0.length ∧ m.ents[id]? = some e := fun {id e} he => by
      show _ ∧ _
      have : (m.ents.take H0.length)[id]? = some e := he
      rw [List.getElem?_take] at this
      split at this
      · exact ⟨by assumption, this⟩
      · simp at this
    have hHtk : ∀ {id : Nat} {o : Obj}, (H.take H0.length)[id]? = some o → id < H0.length ∧ H[id]? = some o := fun {id o} he => by
      rw [List.getElem?_take] at he
      split at he
      · exact ⟨by assumption, he⟩
      · simp at he
    -- the old objects refer to no newer ones
    have hold : ∀ (id : Nat) (o : Obj) (e : Ent), id < H0.length → H[id]? = some o → m.ents[id]? = some e → e ≠ .pend → o.lt H0.length = true := by
      intro id o e hid ho he hne
      have hid0 : id < m0.ents.length := by rw [hw0.len]; exact hid
      have he0 : m0.ents[id]? ≠ some .pend := fun hp => by
        have := (hP.2 id hp).2
        rw [he] at this; simp at this; exact hne this
      have hlt0 : ∀ o0, H0[id]? = some o0 → o0.lt H0.length = true := by
        intro o0 ho0
        have hob := hw0.obj id o0 _ ho0 (List.getElem?_eq_getElem hid0)
        rw [List.getElem?_eq_getElem hid0] at he0
        generalize m0.ents[id] = e0 at hob he0
        rw [← hw0.len]
        cases o0 with
        | dead => rfl
        | tok a b => rfl
        | box cs =>
          cases e0 with
          | pend => simp at he0
          | tk a b c d => exact hob.elim
          | obj b => obtain ⟨_, ⟨c, E, _, hcv⟩, _⟩ := hob; exact hcv.lt
        | mp es =>
          cases e0 with
          | pend => simp at he0
          | tk a b c d => exact hob.elim
          | obj b => obtain ⟨_, ⟨c, E, _, h1, h2, _⟩, _⟩ := hob; simp only [Obj.lt, Bool.and_eq_true]; exact ⟨h1.lt, h2.lt⟩
      rcases hE.2 id hid with h1 | ⟨i, h1, h2⟩ | ⟨p, p', h1, h2, h3⟩
      · exact hlt0 o (by rw [← h1]; exact ho)
      · have := hcond.2; rw [h1] at this; simp [Esc.ge] at this; omega
      · rw [ho] at h1; simp at h1; subst h1
        exact h3 _ hid (hlt0 p h2)
    have hx0 : Ext m0 m' w0 w := ⟨hL.ext.B, fun id e he => by
      obtain ⟨e', he', hle⟩ := hL.ext.ents id e he
      have : id < H0.length := by rw [← hw0.len]; exact (List.getElem?_eq_some_iff.1 he).1
      exact ⟨e', by show (m.ents.take H0.length)[id]? = _; rw [List.getElem?_take, if_pos this]; exact he', hle⟩, fun b o hs => .inl (hL.ext.st b o hs), hL.ext.cell⟩
    -- a block of an object that is left is no kept one's
    have hfro : ∀ (id : Nat) (o : Obj) (e : Ent) (b off : Nat), id < H0.length → H[id]? = some o → o.live = true → m.ents[id]? = some e → entBlk e = some b → StF m H H0.length b off → m.St b off := by
      intro id o e b off hid ho hlv he hb hs
      rcases hs with hs | ⟨j, cs, h1, h2, h3, _⟩
      · exact hs
      · have := hw.sep id j o (.box cs) e (.obj b) b ho hlv he hb h2 rfl h3 rfl; omega
    refine ⟨⟨m', (hv.strp hw H0.length).trunc (m := { m with St := StF m H H0.length }) (fun _ _ h => h) hcond.1, ⟨hx0, hL.low⟩, ?_, ?_⟩, ⟨by simp [hn], fun id hid => ?_⟩⟩
    · refine ⟨?_, ?_, ?_, ?_, hw.size⟩
      · show (m.ents.take H0.length).length = _
        simp [hw.len]
      · intro id o e h1 h2
        obtain ⟨g1, g2⟩ := hHtk h1
        obtain ⟨_, g3⟩ := htk h2
        have hob := hw.obj id o e g2 g3
        have hlt := hold id o e g1 g2 g3
        cases o with
        | dead => cases e <;> trivial
        | box cs =>
          cases e with
          | pend => trivial
          | tk a b c d => exact hob.elim
          | obj b =>
            obtain ⟨q1, ⟨c, E, q2, q3⟩, q4⟩ := hob
            exact ⟨q1, ⟨c, E, q2, q3.trunc hmono (hlt (by simp))⟩, fun off hs => q4 off (hfro id _ _ b off g1 g2 rfl g3 rfl hs)⟩
        | mp es =>
          cases e with
          | pend => trivial
          | tk a b c d => exact hob.elim
          | obj b =>
            obtain ⟨q1, ⟨c, E, q2, q3, q3', q3m⟩, q4⟩ := hob
            have hlt' := hlt (by simp)
            simp only [Obj.lt, Bool.and_eq_true] at hlt'
            exact ⟨q1, ⟨c, E, q2, q3.trunc hmono hlt'.1, q3'.trunc hmono hlt'.2, q3m⟩, fun off hs => q4 off (hfro id _ _ b off g1 g2 rfl g3 rfl hs)⟩
        | tok a b' =>
          cases e with
          | pend => trivial
          | obj b => exact hob.elim
          | tk b f c' s' =>
            obtain ⟨q1, q2, q3, q4, q5⟩ := hob
            exact ⟨q1, q2, q3, q4, fun off hs => q5 off (hfro id _ _ b off g1 g2 rfl g3 rfl hs)⟩
      · intro i j o1 o2 e1 e2 b h1 hl1 h2 hb1 h3 hl2 h4 hb2
        exact hw.sep i j o1 o2 e1 e2 b (hHtk h1).2 hl1 (htk h2).2 hb1 (hHtk h3).2 hl2 (htk h4).2 hb2
      · intro b o hs
        rcases hs with hs | ⟨id, cs, h1, h2, h3, h4⟩
        · exact hw.st b o hs
        · obtain ⟨_, ⟨c, E, hc, hcv⟩, _⟩ := hw.box h2 h3
          rw [cell_of_block hc]
          have : o < c.size := by have := hcv.1; simp at this; omega
          exact ⟨c[o], Array.getElem?_eq_getElem this⟩
    · refine ⟨by simp [hn], fun id hp => ?_⟩
      obtain ⟨h1, h2⟩ := hP.2 id hp
      have : id < H0.length := by rw [← hw0.len]; exact (List.getElem?_eq_some_iff.1 hp).1
      exact ⟨by rw [List.getElem?_take, if_pos this]; exact h1, by show (m.ents.take H0.length)[id]? = _; rw [List.getElem?_take, if_pos this]; exact h2⟩
    · rw [List.getElem?_take, if_pos hid]
      rcases hE.2 id hid with h1 | ⟨i, h1, h2⟩ | h1
      · exact .inl h1
      · have := hcond.2; rw [h1] at this; simp [Esc.ge] at this; omega
      · exact .inr (.inr h1)
  · simp only [Prod.mk.injEq] at h
    obtain ⟨rfl, rfl, rfl⟩ := h
    exact ⟨⟨m, hv, hL, hw, hP⟩, hE⟩

end Go.Lim
