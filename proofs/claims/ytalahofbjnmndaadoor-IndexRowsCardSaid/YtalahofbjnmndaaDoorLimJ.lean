/- The E machine: soundness of append and make. -/
import Derived.Test.YtalahofbjnmndaaDoorLimI
import Derived.Deep.AppendSrc
set_option linter.unusedVariables false
set_option linter.unusedSimpArgs false
namespace Go.Lim
open Go.RowKit
variable {P : Program} {m : Em} {H : Heap} {w : World}

/-- A live object moves into a new block. -/
theorem move_core {w' : World} {ob : Go.Obj} {o o' : Obj} {e e' : Ent} {id n : Nat} (hw : WRel m H w) (hid : H[id]? = some o) (he : m.ents[id]? = some e)
    (hh : w'.heap = w.heap.push ob) (ht : w'.tape = w.tape) (hos : w'.os = w.os) (hp : w'.output = w.output) (hle : EntLe e e') (hb' : entBlk e' = some w.heap.size)
    (hc : ∀ j, j < n → ∃ v, w'.cell? ⟨w.heap.size, j, none⟩ = some v)
    (hn : Ext m (m.upd id e' w.heap.size 0 n) w w' → ObjR (m.upd id e' w.heap.size 0 n) w' o' e') :
    Le m w (m.upd id e' w.heap.size 0 n) w' ∧ WRel (m.upd id e' w.heap.size 0 n) (H.set id o') w' := by
  have hidl : id < H.length := (List.getElem?_eq_some_iff.1 hid).1
  have hx : Ext m (m.upd id e' w.heap.size 0 n) w w' := ⟨rfl, fun i e1 h1 => by
    simp only [Em.upd]
    by_cases hi' : i = id
    · subst hi'
      rw [he] at h1; simp at h1; subst h1
      exact ⟨e', by rw [List.getElem?_set]; simp; rw [hw.len]; exact hidl, hle⟩
    · exact ⟨e1, by rw [List.getElem?_set, if_neg (Ne.symm hi')]; exact h1, EntLe.refl e1⟩, fun b o hs => .inl hs, fun b o hs => cell_of_heap (heap_push_old hh (hw.st_lt hs)) o⟩
  have hget : ∀ (i : Nat) (o1 : Obj) (e1 : Ent), (H.set id o')[i]? = some o1 → (m.upd id e' w.heap.size 0 n).ents[i]? = some e1 → (i ≠ id ∧ H[i]? = some o1 ∧ m.ents[i]? = some e1) ∨ (i = id ∧ o1 = o' ∧ e1 = e') := by
    intro i o1 e1 h1 h2
    simp only [Em.upd] at h2
    by_cases hi' : i = id
    · subst hi'
      rw [List.getElem?_set] at h1 h2
      simp at h1 h2
      exact .inr ⟨rfl, h1.2.symm, h2.2.symm⟩
    · rw [List.getElem?_set, if_neg (Ne.symm hi')] at h1 h2
      exact .inl ⟨hi', h1, h2⟩
  refine ⟨⟨hx, ⟨hos, ht, hp, by rw [hh]; simp, fun k hk => heap_push_old hh (Nat.lt_of_lt_of_le hk hw.size)⟩⟩, ⟨by simp [Em.upd, hw.len], ?_, ?_, ?_, by rw [hh]; have := hw.size; simp [Em.upd]; omega⟩⟩
  · intro i o1 e1 h1 h2
    rcases hget i o1 e1 h1 h2 with ⟨hne, g1, g2⟩ | ⟨_, q2, q3⟩
    · have hob := hw.obj i o1 e1 g1 g2
      refine hob.keep hx ?_ ?_
      · intro hl b hb; exact heap_push_old hh (hob.blk_lt hl hb).1
      · intro hl b off hb hs
        rcases hs with hs | ⟨rfl, _⟩
        · exact hs
        · have := (hob.blk_lt hl hb).1; omega
    · rw [q2, q3]; exact hn hx
  · intro i j o1 o2 e1 e2 b1 h1 hl1 h2 hb1 h3 hl2 h4 hb2
    rcases hget i o1 e1 h1 h2 with ⟨hn1, g1, g2⟩ | ⟨q1, q2, q3⟩ <;> rcases hget j o2 e2 h3 h4 with ⟨hn2, g3, g4⟩ | ⟨p1, p2, p3⟩
    · exact hw.sep i j o1 o2 e1 e2 b1 g1 hl1 g2 hb1 g3 hl2 g4 hb2
    · rw [p3, hb'] at hb2; simp at hb2
      have := ((hw.obj i o1 e1 g1 g2).blk_lt hl1 hb1).1; omega
    · rw [q3, hb'] at hb1; simp at hb1
      have := ((hw.obj j o2 e2 g3 g4).blk_lt hl2 hb2).1; omega
    · rw [q1, p1]
  · intro b' off hs
    rcases hs with hs | ⟨rfl, h1, h2⟩
    · obtain ⟨v, hv⟩ := hw.st b' off hs
      exact ⟨v, by rw [cell_of_heap (heap_push_old hh (cell_lt hv))]; exact hv⟩
    · exact hc off h2

theorem move_obj {w' : World} {ob : Go.Obj} {o o' : Obj} {e e' : Ent} {id n : Nat} (hw : WRel m H w) (hid : H[id]? = some o) (he : m.ents[id]? = some e) (hnp : e ≠ .pend)
    (hh : w'.heap = w.heap.push ob) (ht : w'.tape = w.tape) (hos : w'.os = w.os) (hp : w'.output = w.output) (hle : EntLe e e') (hb' : entBlk e' = some w.heap.size)
    (hc : ∀ j, j < n → ∃ v, w'.cell? ⟨w.heap.size, j, none⟩ = some v)
    (hn : Ext m (m.upd id e' w.heap.size 0 n) w w' → ObjR (m.upd id e' w.heap.size 0 n) w' o' e') :
    Le m w (m.upd id e' w.heap.size 0 n) w' ∧ WRel (m.upd id e' w.heap.size 0 n) (H.set id o') w' ∧ Pend m H (m.upd id e' w.heap.size 0 n) (H.set id o') := by
  have h := move_core hw hid he hh ht hos hp hle hb' hc hn
  refine ⟨h.1, h.2, by simp, fun i hpd => ?_⟩
  have hne : i ≠ id := by
    intro h; subst h
    rw [he] at hpd; simp at hpd
    exact hnp hpd
  simp only [Em.upd]
  exact ⟨by rw [List.getElem?_set, if_neg (Ne.symm hne)], by rw [List.getElem?_set, if_neg (Ne.symm hne)]; exact hpd⟩

/-- What append asks of the types. -/
def appT (P : Program) (t e sz bytes : Nat) : Bool :=
  (match P.underlying t with | some (.slice e') => decide (e' = e) | _ => false) &&
  (match P.info? e with
   | some i => decide (i.size = sz) && decide (i.bytes = bytes) && (match i.zero with | some z => decide (z.cells.size = sz) | none => false)
   | none => false) && decide (0 < sz ∧ 0 < bytes)
theorem appT_some {t e sz bytes : Nat} (h : appT P t e sz bytes = true) : P.underlying t = some (.slice e) ∧ ∃ i z, P.info? e = some i ∧ i.zero = some z ∧ i.size = sz ∧ i.bytes = bytes ∧ z.cells.size = sz ∧ 0 < sz ∧ 0 < bytes := by
  unfold appT at h
  simp only [Bool.and_eq_true, decide_eq_true_eq] at h
  obtain ⟨⟨h1, h2⟩, h3⟩ := h
  split at h1 <;> simp at h1
  rename_i e' hu; subst h1
  split at h2 <;> try (simp at h2; done)
  rename_i i hi
  simp only [Bool.and_eq_true, decide_eq_true_eq] at h2
  obtain ⟨⟨h4, h5⟩, h6⟩ := h2
  split at h6 <;> simp at h6
  rename_i z hz
  exact ⟨hu, i, z, hi, hz, h4, h5, h6, h3⟩

/-- A slice's cells, as values. -/
theorem slc_row {tk : Tok} {es : List AV} {b o cap sz : Nat} {r : Nat → Value} (hv : ∀ (j : Nat) v, (AV.flat es)[j]? = some v → VR m w v (r j))
    (hc : ∀ j, j < (AV.flat es).length → m.St b (o + j) ∧ w.cell? ⟨b, o + j, none⟩ = some (r j)) :
    ∃ rs : List Value, VRL m w (AV.flat es) rs ∧ ∀ (j : Nat) u, rs[j]? = some u → w.cell? ((⟨b, o, none⟩ : Addr).add j) = some u := by
  refine ⟨(List.range (AV.flat es).length).map r, VRL.of_fun r hv, fun j u hu => ?_⟩
  have hj : j < (AV.flat es).length := by have := (List.getElem?_eq_some_iff.1 hu).1; simpa using this
  simp [List.getElem?_map, List.getElem?_range hj] at hu
  rw [addr_add, (hc j hj).2, hu]

theorem VRL.ones {cs : List AV} {rs : List Value} (h : VRL m w cs rs) (h1 : ∀ v ∈ cs, v.one = true) : ∀ u ∈ rs, u.oneCell' = true := by
  intro u hu
  obtain ⟨j, hj, rfl⟩ := List.getElem_of_mem hu
  have hj' : j < cs.length := by rw [h.1]; exact hj
  exact (h.2 j cs[j] _ (List.getElem?_eq_getElem hj') (List.getElem?_eq_getElem hj)).one (h1 _ (List.getElem_mem hj'))

theorem flat_ones {es : List AV} (h : ∀ e ∈ es, e.cells.all AV.one = true) : ∀ v ∈ AV.flat es, v.one = true := by
  induction es with
  | nil => intro v hv; simp [AV.flat] at hv
  | cons x r ih =>
    intro v hv
    simp only [AV.flat, List.mem_append] at hv
    rcases hv with hv | hv
    · exact List.all_eq_true.1 (h x (by simp)) v hv
    · exact ih (fun e he => h e (by simp [he])) v hv

/-- The value that a row in a new block is. -/
theorem row_VR {m' : Em} {w' : World} {es : List AV} {rs : List Value} {b cap sz : Nat} {tk : Tok} {c : Array Value} {E : TypeId} (hb : w'.heap[b]? = some (.cells c E (0, 0)))
    (hv : VRL m' w' (AV.flat es) rs) (hc : ∃ rest, c.toList = rs ++ rest) (hst : ∀ j, j < (AV.flat es).length → m'.St b j) (hsz : ∀ e ∈ es, e.cells.length = sz) (hcap : es.length ≤ cap)
    (ht : TokOK m'.ents tk es.length (AV.flat es).length cap b 0) : VR m' w' (.slc tk es) (.slice (some ⟨b, 0, none⟩) es.length cap) := by
  obtain ⟨rest, hrest⟩ := hc
  refine .slc tk es b 0 cap sz (fun j => rs.getD j undef) hcap hsz (fun j hj => ⟨by rw [Nat.zero_add]; exact hst j hj, ?_⟩) (fun j v hjv => ?_) ht
  · have hj' : j < rs.length := by rw [← hv.1]; exact hj
    rw [Nat.zero_add, cell_of_block hb, ← Array.getElem?_toList, hrest, List.getElem?_append_left hj']
    simp [List.getD_eq_getElem?_getD, hj']
  · have hj' : j < rs.length := by rw [← hv.1]; exact (List.getElem?_eq_some_iff.1 hjv).1
    exact hv.2 j v _ hjv (by simp [List.getD_eq_getElem?_getD, hj'])

theorem append_nothing {t tx e sz bytes : Nat} {ty : TypeId} (hT : appT P t e sz bytes = true) {base : Option Addr} {n c : Nat} (hle : n ≤ c) {i : TypeInfo} (hi : P.info? e = some i) {rb : Value} {news : List Value} (hs : Src P i.size tx rb 0 news w) :
    (Builtin.append_ #[t, tx] ty #[.slice base n c, rb]).run P w = .ok (.slice base n c) w := by
  obtain ⟨hu, i', z, hi', hz, h1, h2, h3, h4, _⟩ := appT_some hT
  rw [hi] at hi'; simp at hi'; subst hi'
  have hn : news = [] := List.eq_nil_of_length_eq_zero (by rw [hs.newsLen, Nat.zero_mul])
  have hc := hs.cells
  subst hn
  rcases hs.kind with ⟨e', hk⟩ | hk <;> cases base <;> simp [Builtin.append_, run_underlying hu, run_underlying hk, sizeOf, typeInfo, hi, hs.len, hle, hc, storeCells]

theorem tok_ent (hw : WRel m H w) {t front sz : Nat} (hH : H[t]? = some (.tok front sz)) {blk f cap s : Nat} (he : m.ents[t]? = some (.tk blk f cap s)) :
    m.B ≤ blk ∧ f = front ∧ s = sz ∧ (∃ c E, w.heap[blk]? = some (.cells c E (0, 0)) ∧ c.size = cap * sz ∧ cap ≤ 9223372036854775807 ∧ front ≤ c.size) ∧ ∀ o, m.St blk o → o < front :=
  hw.obj t _ _ hH he

theorem append_core {t tx e sz bytes : Nat} {ty : TypeId} {a v : AV} {ys : List AV} {tky : Tok} {ra rb : Value} {H' : Heap} {s : Esc} {i : TypeInfo} {news : List Value} (hw : WRel m H w) (ha : VR m w a ra) (hT : appT P t e sz bytes = true)
    (hi : P.info? e = some i) (hnv : VRL m w (AV.flat ys) news) (hsrc : Src P i.size tx rb ys.length news w)
    (h : appendE H sz bytes a (.slc tky ys) = some (v, H', s)) : HFits P m H w (Builtin.append_ #[t, tx] ty #[ra, rb]) v H' := by
  obtain ⟨hu, i', z, hi', hz, hsize, hbytes, hzs, hpos, hbpos⟩ := appT_some hT
  rw [hi] at hi'; simp at hi'; subst hi'
  cases a <;> try (simp [appendE] at h; done)
  rename_i tk xs
  cases ys with
  | nil =>
    simp [appendE] at h
    obtain ⟨rfl, rfl, rfl⟩ := h
    have key : ∀ (base : Option Addr) (n c : Nat), n ≤ c → (Builtin.append_ #[t, tx] ty #[.slice base n c, rb]).run P w = .ok (.slice base n c) w := fun base n c hle => append_nothing hT hle hi hsrc
    have hself := ha
    cases ha with
    | slcN tk ht => exact Fits.h (.same hw (key none 0 0 (Nat.le_refl _)) hself)
    | slcE a c => exact Fits.h (.same hw (key a 0 c (Nat.zero_le _)) hself)
    | slc tk es b o cap s r hle hs hc hv ht => exact Fits.h (.same hw (key _ _ cap hle) hself)
  | cons y ys' =>
    simp only [appendE] at h
    split at h <;> try (simp at h; done)
    rename_i hcond
    obtain ⟨hcb, hyall, hxall⟩ := hcond
    generalize hys : y :: ys' = ys at *
    have hym : 0 < ys.length := by rw [← hys]; simp
    have hysz : ∀ u ∈ ys, u.cells.length = sz := fun u hu => by have := List.all_eq_true.1 hyall u hu; simp at this; exact this.1
    have hyone : ∀ u ∈ ys, u.cells.all AV.one = true := fun u hu => by have := List.all_eq_true.1 hyall u hu; simp at this; simp; exact this.2
    have hxsz : ∀ u ∈ xs, u.cells.length = sz := fun u hu => by have := List.all_eq_true.1 hxall u hu; simpa using this
    have hfy : (AV.flat ys).length = ys.length * sz := flat_length hysz
    have hfx : (AV.flat xs).length = xs.length * sz := flat_length hxsz
    have hfz : (AV.flat (xs ++ ys)).length = (xs.length + ys.length) * sz := by rw [flat_append, List.length_append, hfx, hfy, Nat.add_mul]
    have hzsz : ∀ u ∈ xs ++ ys, u.cells.length = sz := fun u hu => by
      rcases List.mem_append.1 hu with h1 | h1
      · exact hxsz u h1
      · exact hysz u h1
    have hlen2 : (xs ++ ys).length = xs.length + ys.length := by simp
    have h47 : xs.length + ys.length ≤ 140737488355328 := Nat.le_trans (Nat.le_mul_of_pos_right _ hbpos) hcb
    have hlt : xs.length * sz < (xs.length + ys.length) * sz := by rw [Nat.add_mul]; have := Nat.mul_pos hym hpos; omega
    have hnl : news.length = ys.length * i.size := by rw [← hnv.1, hfy, hsize]
    have hn1 : ∀ u ∈ news, u.oneCell' = true := hsrc.one
    -- a row in a new block
    have fresh : ∀ (old : Nat) (olds : List Value), old < xs.length + ys.length → VRL m w (AV.flat xs) olds →
        let c := (olds ++ news).toArray ++ Builtin.zeroCells z.cells (grownCap w (xs.length + ys.length) old e - (xs.length + ys.length))
        c.size = grownCap w (xs.length + ys.length) old e * sz ∧ grownCap w (xs.length + ys.length) old e ≤ 9223372036854775807 ∧ xs.length + ys.length ≤ grownCap w (xs.length + ys.length) old e ∧
        (∃ rest, c.toList = (olds ++ news) ++ rest) ∧ VRL m w (AV.flat (xs ++ ys)) (olds ++ news) := by
      intro old olds hold hov
      have hge := grownCap_ge w (xs.length + ys.length) old e
      have hcm : grownCap w (xs.length + ys.length) old e ≤ maxLen := grownCap_le_maxLen w _ old e (by simp only [maxLen]; omega)
      have hol : olds.length = xs.length * sz := by rw [← hov.1, hfx]
      refine ⟨?_, by simpa only [maxLen] using hcm, hge, ⟨(Builtin.zeroCells z.cells (grownCap w (xs.length + ys.length) old e - (xs.length + ys.length))).toList, by simp⟩, by rw [flat_append]; exact hov.append hnv⟩
      simp only [Array.size_append, List.size_toArray, List.length_append, size_zeroCells, hzs, hol, hnl, hsize, ← Nat.add_mul]
      congr 1
      omega
    have newtok : ∀ (old : Nat) (olds : List Value) (w' : World), old < xs.length + ys.length → VRL m w (AV.flat xs) olds →
        w' = w.drew.alloc (.cells ((olds ++ news).toArray ++ Builtin.zeroCells z.cells (grownCap w (xs.length + ys.length) old e - (xs.length + ys.length))) e) →
        ∃ m', VR m' w' (.slc (.own H.length) (xs ++ ys)) (.slice (some ⟨w.heap.size, 0, none⟩) (xs.length + ys.length) (grownCap w (xs.length + ys.length) old e)) ∧
          Le m w m' w' ∧ WRel m' (H ++ [.tok ((xs.length + ys.length) * sz) sz]) w' ∧ Pend m H m' (H ++ [.tok ((xs.length + ys.length) * sz) sz]) := by
      intro old olds w' hold hov hw'
      obtain ⟨h1, h2, h3, h4, h5⟩ := fresh old olds hold hov
      generalize hcc : (olds ++ news).toArray ++ Builtin.zeroCells z.cells (grownCap w (xs.length + ys.length) old e - (xs.length + ys.length)) = c at *
      subst hw'
      have hfront : (xs.length + ys.length) * sz ≤ c.size := by rw [h1]; exact Nat.mul_le_mul_right _ h3
      have hblk : (w.drew.alloc (.cells c e)).heap[w.heap.size]? = some (.cells c e (0, 0)) := heap_push_new (w := w) rfl
      have hp := push_obj (w' := w.drew.alloc (.cells c e)) (n := (xs.length + ys.length) * sz) (o := .tok ((xs.length + ys.length) * sz) sz)
        (e := .tk w.heap.size ((xs.length + ys.length) * sz) (grownCap w (xs.length + ys.length) old e) sz) hw rfl rfl rfl rfl rfl
        (fun j hj => ⟨c[j]'(by omega), by rw [cell_of_block hblk]; exact Array.getElem?_eq_getElem _⟩)
        (fun hx => ⟨hw.size, rfl, rfl, ⟨c, e, hblk, h1, h2, hfront⟩, fun o hs => by
          rcases hs with hs | ⟨_, hlt'⟩
          · have := hw.st_lt hs; omega
          · exact hlt'⟩)
      refine ⟨_, ?_, hp⟩
      have hv := row_VR (tk := .own H.length) (cap := grownCap w (xs.length + ys.length) old e) (sz := sz) hblk (h5.ext hp.1.ext) h4 (fun j hj => .inr ⟨rfl, by rw [hfz] at hj; exact hj⟩) hzsz (by rw [hlen2]; exact h3)
        ⟨w.heap.size, _, _, sz, add_ent hw, by rw [hfz]; exact Nat.le_refl _, fun _ => ⟨rfl, rfl, rfl⟩⟩
      rw [hlen2] at hv
      exact hv
    have hbb : (xs.length + ys.length) * i.bytes ≤ 140737488355328 := by rw [hbytes]; exact hcb
    cases tk with
    | any => simp [appTok] at h
    | nil =>
      simp only [appTok] at h
      split at h <;> try (simp at h; done)
      rename_i hx0
      simp at h
      obtain ⟨rfl, rfl, rfl⟩ := h
      subst hx0
      cases ha with
      | slcN tk ht =>
        have hrun := run_append_grow_src (P := P) w t tx ty e i z hu hi hz none 0 0 [] (run_firstCells_none w.drew i.size 0 0 0) rb ys.length news hsrc (by omega) (by simp at h47 ⊢; omega) (by rw [Nat.zero_add]; rw [nextslicecap_zero hym]; simp at hbb; omega)
        obtain ⟨m', h1, h2, h3, h4⟩ := newtok 0 [] _ (by simp; exact hym) (VRL.nil m w) rfl
        simp only [List.length_nil, Nat.zero_add, List.nil_append] at h1 h2 h3 h4 ⊢
        refine ⟨_, m', _, hrun, ?_, ?_, ?_, ?_⟩
        · simpa using h1
        · simpa using h2
        · simpa using h3
        · simpa using h4
      | slc tk es b o cap s r hle hs hc hv ht => simp [TokOK] at ht
    | full =>
      simp [appTok] at h
      obtain ⟨rfl, rfl, rfl⟩ := h
      cases ha with
      | slcN tk ht => simp at ht
      | slc tk es b o cap s r hle hs hc hv ht =>
        simp only [TokOK] at ht
        subst ht
        obtain ⟨olds, hov, hoc⟩ := slc_row (tk := Tok.full) (cap := xs.length) (sz := sz) hv hc
        have hol : olds.length = xs.length * i.size := by rw [← hov.1, hfx, hsize]
        have hrun := run_append_grow_src (P := P) w t tx ty e i z hu hi hz (some ⟨b, o, none⟩) xs.length xs.length olds (run_firstCells_some w.drew i.size xs.length ⟨b, o, none⟩ xs.length xs.length olds hol (by simpa using hoc)) rb ys.length news hsrc (by omega) (by omega) (growslice_fits (by omega) hbb)
        obtain ⟨m', h1, h2, h3, h4⟩ := newtok xs.length olds _ (by omega) hov rfl
        exact ⟨_, m', _, hrun, h1, h2, h3, h4⟩
    | own tt =>
      simp only [appTok] at h
      split at h <;> try (simp at h; done)
      rename_i front sz' hH
      split at h <;> try (simp at h; done)
      rename_i hfr
      obtain ⟨hfr1, hfr2⟩ := hfr
      subst hfr1
      simp at h
      obtain ⟨rfl, rfl, rfl⟩ := h
      cases ha with
      | slcN tk ht => simp at ht
      | slc tk es b o cap s r hle hs hc hv ht =>
        obtain ⟨blk, f, cap', s2, he, hf1, hf2⟩ := ht
        obtain ⟨hB, hf3, hs3, ⟨c, E, hcb', hcs, hcm, hfc⟩, hst⟩ := tok_ent hw hH he
        subst hf3; subst hs3
        obtain ⟨rfl, rfl, rfl⟩ := hf2 (by rw [hfx, hfr2])
        obtain ⟨olds, hov, hoc⟩ := slc_row (tk := Tok.own tt) (cap := cap) (sz := s2) hv hc
        have hol : olds.length = xs.length * i.size := by rw [← hov.1, hfx, hsize]
        by_cases hroom : xs.length + ys.length ≤ cap
        · -- in place
          have hfit : (xs.length + ys.length) * s2 ≤ c.size := by rw [hcs]; exact Nat.mul_le_mul_right _ hroom
          have hcell : ∀ j, j < news.length → (w.cell? ⟨b, 0 + xs.length * i.size + j, none⟩).isSome = true := by
            intro j hj
            rw [cell_of_block hcb', hsize]
            have : 0 + xs.length * s2 + j < c.size := by rw [hnl, hsize] at hj; rw [Nat.add_mul] at hfit; omega
            rw [Array.getElem?_eq_getElem this]; rfl
          have hfrz : ∀ j, j < news.length → w.frozen? ⟨b, 0 + xs.length * i.size + j, none⟩ = false := by
            intro j hj
            simp [World.frozen?, hcb']
          have hrun := run_append_room_src (P := P) (ty := ty) w t tx e i hu hi b 0 xs.length cap rb ys.length news hsrc hroom hcell hfrz
          have hrow : w.setCells b (0 + xs.length * i.size) news = w.setRow b (c.toList.take (xs.length * s2) ++ news ++ c.toList.drop (xs.length * s2 + news.length)).toArray := by
            have e1 := run_storeCells_cells (P := P) b (0 + xs.length * i.size) news 0 w (by simpa using hcell) (by simpa using hfrz) hn1
            have e2 := run_storeCells_at (P := P) b (0 + xs.length * i.size) E news 0 c w hcb' (by rw [hnl, hsize, Nat.zero_add, Nat.add_zero, ← Nat.add_mul]; exact hfit) hn1
            rw [e1] at e2
            injection e2 with _ e2
            simp only [Nat.add_zero, Nat.zero_add, hsize] at e2 ⊢
            exact e2
          rw [hrow] at hrun
          have hnl' : news.length = ys.length * s2 := by rw [hnl, hsize]
          have hnew := setRow_heap w b c (c.toList.take (xs.length * s2) ++ news ++ c.toList.drop (xs.length * s2 + news.length)).toArray E _ hcb'
          have hcl : (c.toList.take (xs.length * s2)).length = xs.length * s2 := by simp; omega
          have hcsz : (c.toList.take (xs.length * s2) ++ news ++ c.toList.drop (xs.length * s2 + news.length)).toArray.size = c.size := by
            simp; rw [hnl']; rw [Nat.add_mul] at hfit; omega
          -- the cells before are the old ones
          have hpre : c.toList.take (xs.length * s2) = olds := by
            apply List.ext_getElem?
            intro j
            rw [List.getElem?_take]
            split
            · rename_i hj
              have hj' : j < olds.length := by rw [hol, hsize]; exact hj
              have := hoc j olds[j] (List.getElem?_eq_getElem hj')
              rw [addr_add, cell_of_block hcb', Nat.zero_add] at this
              rw [Array.getElem?_toList, this, List.getElem?_eq_getElem hj']
            · rename_i hj
              rw [List.getElem?_eq_none (by rw [hol, hsize]; omega)]
          have hp := upd_obj (w' := w.setRow b (c.toList.take (xs.length * s2) ++ news ++ c.toList.drop (xs.length * s2 + news.length)).toArray) (lo := 0) (hi := (xs.length + ys.length) * s2)
            (o' := .tok ((xs.length + ys.length) * s2) s2) (e' := .tk b ((xs.length + ys.length) * s2) cap s2) hw hH rfl he rfl (fun k hk => setRow_other w b k _ hk) (size_setRow _ _ _) rfl rfl rfl
            (fun off hs' => by
              have hlt' := hst off hs'
              rw [hfr2] at hlt'
              rw [cell_of_block hnew, cell_of_block hcb']
              rw [List.append_assoc, ← Array.getElem?_toList]
              simp only
              rw [List.getElem?_append_left (by rw [hcl]; exact hlt'), List.getElem?_take, if_pos hlt', Array.getElem?_toList])
            ⟨b, _, cap, rfl, .inl (by rw [hfr2]; exact hlt)⟩ rfl
            (fun j _ hj => by
              rw [cell_of_block hnew]
              exact ⟨_, Array.getElem?_eq_getElem (by rw [hcsz]; omega)⟩)
            (fun hx => ⟨hB, rfl, rfl, ⟨_, E, hnew, by rw [hcsz]; exact hcs, hcm, by rw [hcsz]; exact hfit⟩, fun off hs' => by
              rcases hs' with hs' | ⟨_, _, hs'⟩
              · have := hst off hs'; rw [hfr2] at this; omega
              · exact hs'⟩)
          refine ⟨_, _, _, hrun, ?_, hp⟩
          have hv' := row_VR (m' := m.upd tt (.tk b ((xs.length + ys.length) * s2) cap s2) b 0 ((xs.length + ys.length) * s2)) (tk := .own tt) (cap := cap) (sz := s2) (rs := olds ++ news) hnew (by rw [flat_append]; exact (hov.append hnv).ext hp.1.ext) ⟨c.toList.drop (xs.length * s2 + news.length), by rw [hpre]⟩
            (fun j hj => .inr ⟨rfl, Nat.zero_le _, by rw [hfz] at hj; exact hj⟩) hzsz (by rw [hlen2]; exact hroom)
            ⟨b, (xs.length + ys.length) * s2, cap, s2, by simp only [Em.upd]; rw [List.getElem?_set]; simp; exact (List.getElem?_eq_some_iff.1 he).1, by rw [hfz]; exact Nat.le_refl _, fun _ => ⟨rfl, rfl, rfl⟩⟩
          rw [hlen2] at hv'
          exact hv'
        · -- a new block
          have hrun := run_append_grow_src (P := P) w t tx ty e i z hu hi hz (some ⟨b, 0, none⟩) xs.length cap olds (run_firstCells_some w.drew i.size xs.length ⟨b, 0, none⟩ xs.length cap olds hol (by simpa using hoc)) rb ys.length news hsrc (by omega) (by omega) (growslice_fits (by omega) hbb)
          obtain ⟨h1, h2, h3, h4, h5⟩ := fresh cap olds (by omega) hov
          generalize hcc : (olds ++ news).toArray ++ Builtin.zeroCells z.cells (grownCap w (xs.length + ys.length) cap e - (xs.length + ys.length)) = c2 at *
          have hfront : (xs.length + ys.length) * s2 ≤ c2.size := by rw [h1]; exact Nat.mul_le_mul_right _ h3
          have hblk : (w.drew.alloc (.cells c2 e)).heap[w.heap.size]? = some (.cells c2 e (0, 0)) := heap_push_new (w := w) rfl
          have hp := move_obj (w' := w.drew.alloc (.cells c2 e)) (n := (xs.length + ys.length) * s2) (o' := .tok ((xs.length + ys.length) * s2) s2)
            (e' := .tk w.heap.size ((xs.length + ys.length) * s2) (grownCap w (xs.length + ys.length) cap e) s2) hw hH he (by simp) rfl rfl rfl rfl ⟨_, _, _, rfl, .inl (by rw [hfr2]; exact hlt)⟩ rfl
            (fun j hj => ⟨c2[j]'(by omega), by rw [cell_of_block hblk]; exact Array.getElem?_eq_getElem _⟩)
            (fun hx => ⟨hw.size, rfl, rfl, ⟨c2, e, hblk, h1, h2, hfront⟩, fun o hs => by
              rcases hs with hs | ⟨_, _, hlt'⟩
              · have := hw.st_lt hs; omega
              · exact hlt'⟩)
          refine ⟨_, _, _, hrun, ?_, hp⟩
          have hv' := row_VR (tk := .own tt) (cap := grownCap w (xs.length + ys.length) cap e) (sz := s2) hblk (h5.ext hp.1.ext) h4 (fun j hj => .inr ⟨rfl, Nat.zero_le _, by rw [hfz] at hj; exact hj⟩) hzsz (by rw [hlen2]; exact h3)
            ⟨w.heap.size, (xs.length + ys.length) * s2, grownCap w (xs.length + ys.length) cap e, s2, by simp only [Em.upd]; rw [List.getElem?_set]; simp; exact (List.getElem?_eq_some_iff.1 he).1, by rw [hfz]; exact Nat.le_refl _, fun _ => ⟨rfl, rfl, rfl⟩⟩
          rw [hlen2] at hv'
          exact hv'

theorem appendE_sound {t e sz bytes : Nat} {ty : TypeId} {a b v : AV} {ra rb : Value} {H' : Heap} {s : Esc} (hw : WRel m H w) (ha : VR m w a ra) (hb : VR m w b rb) (hT : appT P t e sz bytes = true)
    (h : appendE H sz bytes a b = some (v, H', s)) : HFits P m H w (Builtin.append_ #[t, t] ty #[ra, rb]) v H' := by
  obtain ⟨hu, i, z, hi, hz, hsize, hbytes, hzs, hpos, hbpos⟩ := appT_some hT
  cases b <;> try (cases a <;> simp [appendE] at h; done)
  rename_i tky ys
  cases hb with
  | slcN tk ht => exact append_core (ys := []) (news := []) hw ha hT hi (VRL.nil m w) (.ofNil w hu 0) h
  | slcE a c =>
    cases a with
    | none => exact append_core (ys := []) (news := []) hw ha hT hi (VRL.nil m w) (.ofNil w hu c) h
    | some a => exact append_core (ys := []) (news := []) hw ha hT hi (VRL.nil m w) (.ofSlice w hu a 0 c [] (by simp) (fun j u h => by simp at h) (fun u h => by simp at h)) h
  | slc tky ys yb yo ycap ysz' yr hyle hyss hyc hyv hyt =>
    obtain ⟨news, hnv, hnc⟩ := slc_row (tk := tky) (cap := ycap) (sz := sz) hyv hyc
    have hh : (∀ u ∈ ys, u.cells.length = sz ∧ u.cells.all AV.one = true) := by
      cases ys with
      | nil => intro u hu; simp at hu
      | cons y ys' =>
        cases a <;> try (simp [appendE] at h; done)
        simp only [appendE] at h
        split at h <;> try (simp at h; done)
        rename_i hcond
        intro u hu
        have := List.all_eq_true.1 hcond.2.1 u hu
        simp only [Bool.and_eq_true, decide_eq_true_eq] at this
        exact this
    have hfy : (AV.flat ys).length = ys.length * sz := flat_length fun u hu => (hh u hu).1
    exact append_core hw ha hT hi hnv (.ofSlice w hu ⟨yb, yo, none⟩ ys.length ycap news (by rw [← hnv.1, hfy, hsize]) hnc (hnv.ones (flat_ones fun u hu => (hh u hu).2))) h

theorem appstr_sound {t u e bytes : Nat} {ty : TypeId} {a v : AV} {x : List UInt8} {ra rb : Value} {H' : Heap} {s : Esc} (hw : WRel m H w) (ha : VR m w a ra) (hb : VR m w (.str x) rb) (hT : appT P t e 1 bytes = true)
    (hu : P.underlying u = some .string) (h : appendE H 1 bytes a (.slc .any (bytesV x)) = some (v, H', s)) : HFits P m H w (Builtin.append_ #[t, u] ty #[ra, rb]) v H' := by
  obtain ⟨_, i, z, hi, hz, hsize, _⟩ := appT_some hT
  cases hb
  refine append_core hw ha hT hi (news := byteCells ⟨x.toArray⟩) ?_ ?_ h
  · rw [bytesV_flat]
    refine ⟨by simp [bytesV, byteCells], fun j p q hp hq => ?_⟩
    simp only [bytesV, byteCells, List.getElem?_map] at hp hq
    cases hx : x[j]? with
    | none => rw [hx] at hp; simp at hp
    | some c => rw [hx] at hp hq; simp at hp hq; subst hp; subst hq; exact .int _ _
  · have := Src.ofString (P := P) (w := w) hu ⟨x.toArray⟩
    rw [hsize]
    have hl : (ByteArray.mk x.toArray).size = (bytesV x).length := by simp [bytesV, ByteArray.size]
    rw [hl] at this
    exact this

theorem madeCells_flat {za : AV} {z : Value} {n sz : Nat} (hz : VRL m w za.cells z.cells.toList) (hsz : z.cells.size = sz) : VRL m w (AV.flat (List.replicate n za)) (madeCells z.cells (n * sz)).toList := by
  have := zeros_flat hz n
  unfold madeCells
  rw [hsz] at this ⊢
  exact this

theorem mksliceE_sound {t e sz bytes : Nat} {zero a b v : AV} {ra rb : Value} {H' : Heap} {s : Esc} (hw : WRel m H w) (ha : VR m w a ra) (hb : VR m w b rb) (hT : appT P t e sz bytes = true) (hzero : zeroIs P e zero = true)
    (h : mksliceE H zero sz bytes a b = some (v, H', s)) : HFits P m H w (Instr.makeSlice t ra rb) v H' := by
  obtain ⟨hu, i, z, hi, hz, hsize, hbytes, hzs, hpos, hbpos⟩ := appT_some hT
  obtain ⟨i', z', hi', hz', hzv⟩ := zeroIs_some hzero
  rw [hi] at hi'; simp at hi'; subst hi'
  rw [hz] at hz'; simp at hz'; subst hz'
  have hzc := (chkV_sound (m := m) (w := w) _ _ hzv).cells
  cases ha <;> try (simp [mksliceE] at h; done)
  rename_i k l
  cases hb <;> try (cases k <;> simp [mksliceE] at h; done)
  rename_i k' c
  cases k <;> try (simp [mksliceE] at h; done)
  cases k' <;> try (simp [mksliceE] at h; done)
  simp only [mksliceE] at h
  split at h <;> try (simp at h; done)
  rename_i hc
  obtain ⟨h0, h1, h2, h3, h4, h5⟩ := hc
  have hby : (i.bytes : Int) * c ≤ 281474976710656 := by rw [hbytes, Int.mul_comm]; omega
  have hrun := run_make (P := P) w t e i z hu hi hz .i64 .i64 l c h0 h1 hby h3
  rw [hsize] at hrun
  split at h
  · rename_i hlc
    subst hlc
    simp at h
    obtain ⟨rfl, rfl, rfl⟩ := h
    obtain ⟨m', h6, h7, h8, h9⟩ := new_box (w' := w.alloc (.cells (madeCells z.cells (l.toNat * sz)) e)) (E := e) (cs := AV.flat (List.replicate l.toNat zero)) hw rfl rfl rfl rfl (madeCells_flat hzc hzs)
    exact ⟨_, m', _, hrun, .arr _ _ _ _ _ _ _ _ h6 (Nat.le_refl _) (fun _ => rfl), h7, h8, h9⟩
  · split at h <;> try (simp at h; done)
    rename_i hlc hl0
    subst hl0
    simp at h
    obtain ⟨rfl, rfl, rfl⟩ := h
    have hcs : (madeCells z.cells (c.toNat * sz)).size = c.toNat * sz := by simp [madeCells]
    have hblk : (w.alloc (.cells (madeCells z.cells (c.toNat * sz)) e)).heap[w.heap.size]? = some (.cells (madeCells z.cells (c.toNat * sz)) e (0, 0)) := heap_push_new (w := w) rfl
    have hp := push_obj (w' := w.alloc (.cells (madeCells z.cells (c.toNat * sz)) e)) (n := 0) (o := .tok 0 sz) (e := .tk w.heap.size 0 c.toNat sz) hw rfl rfl rfl rfl rfl (fun j h => by omega)
      (fun hx => ⟨hw.size, rfl, rfl, ⟨_, e, hblk, hcs, by omega, Nat.zero_le _⟩, fun o hs => by
        rcases hs with hs | ⟨_, hlt'⟩
        · have := hw.st_lt hs; omega
        · exact hlt'⟩)
    refine ⟨_, _, _, hrun, ?_, hp⟩
    exact .slc (.own H.length) [] _ 0 c.toNat sz (fun _ => undef) (Nat.zero_le _) (fun u hu' => by simp at hu') (fun j hj => by simp [AV.flat] at hj) (fun j v hv => by simp [AV.flat] at hv)
      ⟨w.heap.size, 0, c.toNat, sz, add_ent hw, Nat.zero_le _, fun _ => ⟨rfl, rfl, rfl⟩⟩

def bsT (P : Program) (t e sz len : Nat) (zero : AV) : Bool :=
  (match P.underlying t with | some (.slice e') => decide (e' = e) | _ => false) && sizeIs P e sz && zeroIs P e zero && decide (zero.cells.length = sz ∧ 0 < sz ∧ len * sz ≤ 16777216)

theorem bsliceE_sound {t e sz len : Nat} {zero : AV} {ps : List (Nat × AV)} {rps : Array (Nat × Value)} {es : List AV} (hw : WRel m H w) (hT : bsT P t e sz len zero = true)
    (hp : (∀ p ∈ ps, p.2.cells.length = sz) → PartsR m w (fun i => some (i * sz, sz)) (ps.map fun p => (p.1 * sz, p.2)) rps.toList) (h : setAll (List.replicate len zero) ps = some es)
    (hps : ∀ p ∈ ps, p.2.cells.length = sz) : Fits P m H w (Instr.buildSlice t len rps) (.slc .full es) := by
  simp only [bsT, Bool.and_eq_true, decide_eq_true_eq] at hT
  obtain ⟨⟨⟨h1, h2⟩, h3⟩, h4, h5, h6⟩ := hT
  split at h1 <;> simp at h1
  rename_i e' hu; subst h1
  obtain ⟨i, z, hi, hz, hzv⟩ := zeroIs_some h3
  have hzc := (chkV_sound (m := m) (w := w) _ _ hzv).cells
  have hzs : z.cells.size = sz := by have := hzc.1; rw [h4] at this; simpa using this.symm
  have hrs : ∀ u ∈ List.replicate len zero, u.cells.length = sz := fun u hu' => by rw [List.eq_of_mem_replicate hu']; exact h4
  obtain ⟨h7, h8, h9⟩ := setAll_fill (sz := sz) ps _ es hrs hps h
  have hzf := zeros_flat hzc len
  rw [hzs] at hzf
  obtain ⟨cells, h10, h11⟩ := fill_sound (place := fun i => some (i * sz, sz)) _ rps.toList _ _ _ (hp hps) hzf h7
  have hel : es.length = len := by rw [h9]; simp
  have hcz : cells.size = len * sz := by have := h11.1; rw [flat_length h8, hel] at this; simpa using this.symm
  have hblk : (w.alloc (.cells cells e')).heap[w.heap.size]? = some (.cells cells e' (0, 0)) := heap_push_new (w := w) rfl
  have hst := stab_push (w' := w.alloc (.cells cells e')) (n := cells.size) hw rfl (Nat.le_refl _) rfl rfl rfl
  have hv := row_VR (tk := .full) (cap := len) (sz := sz) hblk (h11.ext hst.1.ext) ⟨[], by simp⟩ (fun j hj => .inr ⟨rfl, by rw [flat_length h8, hel] at hj; omega⟩) h8 (by rw [hel]; exact Nat.le_refl _) (by simp [TokOK, hel])
  rw [hel] at hv
  refine ⟨_, _, w.alloc (.cells cells e'), ?_, hv, hst.1, hst.2, rfl⟩
  have hrun : (Instr.buildSlice t len rps).run P w = .ok (.slice (some ⟨w.heap.size, 0, none⟩) len len) (w.alloc (.cells cells e')) := by
    simp only [Instr.buildSlice, Sem.run_bind, run_underlying hu, Result.andThen_ok, run_sizeIs h2]
    rw [if_neg (by omega)]
    by_cases h0 : len * sz = 0
    · rw [if_pos h0]
      have : (Array.range (len * sz)).map (fun x => (#[] : Array Value)[x % (#[] : Array Value).size]!) = (Array.range (len * sz)).map (z.cells[· % sz]!) := by rw [h0]; simp
      have hr0 : Array.range 0 = (#[] : Array Nat) := rfl
      have h10' : Instr.fill (fun i => some (i * sz, sz)) #[] rps.toList = some cells := by rw [h0, hr0] at h10; simpa using h10
      simp [h0, hr0, h10', newRow, newObj, Sem.run]
    · rw [if_neg h0]
      simp [run_zeroIs hi hz, hzs, h10, newRow, newObj, Sem.run]
  exact hrun

end Go.Lim
