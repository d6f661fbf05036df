/- The E machine: soundness of operations, part 3: what lays stable rows; equality; maps read; aggregates built. -/
import Derived.Test.YtalahofbjnmndaaDoorLimE
set_option linter.unusedVariables false
set_option linter.unusedSimpArgs false
namespace Go.Lim
open Go.RowKit
variable {P : Program} {m : Em} {H : Heap} {w : World}

/-- A new row of cells of which the first n are stable from now on. -/
def Em.stab (m : Em) (b n : Nat) : Em := { m with St := fun b' o => m.St b' o ∨ (b' = b ∧ o < n) }


theorem heap_push_old {w w' : World} {ob : Go.Obj} (hh : w'.heap = w.heap.push ob) {b : Nat} (hb : b < w.heap.size) : w'.heap[b]? = w.heap[b]? := by
  rw [hh, Array.getElem?_push, if_neg (by omega)]
theorem heap_push_new {w w' : World} {ob : Go.Obj} (hh : w'.heap = w.heap.push ob) : w'.heap[w.heap.size]? = some ob := by
  rw [hh, Array.getElem?_push, if_pos rfl]
theorem cell_of_heap {w w' : World} {b : Nat} (h : w'.heap[b]? = w.heap[b]?) (o : Nat) : w'.cell? ⟨b, o, none⟩ = w.cell? ⟨b, o, none⟩ := by
  simp [World.cell?, h]
theorem cell_lt {w : World} {b o : Nat} {v : Value} (h : w.cell? ⟨b, o, none⟩ = some v) : b < w.heap.size := by
  rcases Nat.lt_or_ge b w.heap.size with hl | hl
  · exact hl
  · simp [World.cell?, Array.getElem?_eq_none hl] at h

theorem WRel.st_lt (h : WRel m H w) {b o : Nat} (hs : m.St b o) : b < w.heap.size := by
  obtain ⟨v, hv⟩ := h.st b o hs
  exact cell_lt hv

/-- A push of a block, of which some cells become stable. -/
theorem stab_push {w' : World} {c : Array Value} {E : TypeId} {fz : Nat × Nat} {n : Nat} (hw : WRel m H w) (hh : w'.heap = w.heap.push (.cells c E fz)) (hn : n ≤ c.size)
    (ht : w'.tape = w.tape) (ho : w'.os = w.os) (hp : w'.output = w.output) :
    Le m w (m.stab w.heap.size n) w' ∧ WRel (m.stab w.heap.size n) H w' := by
  have hx : Ext m (m.stab w.heap.size n) w w' := ⟨rfl, fun id e he => ⟨e, he, EntLe.refl e⟩, fun b o hs => .inl hs, fun b o hs => cell_of_heap (heap_push_old hh (hw.st_lt hs)) o⟩
  refine ⟨⟨hx, ⟨ho, ht, hp, by rw [hh]; simp, fun k hk => heap_push_old hh (Nat.lt_of_lt_of_le hk hw.size)⟩⟩, ⟨hw.len, ?_, hw.sep, ?_, by rw [hh]; have := hw.size; simp [Em.stab]; omega⟩⟩
  · intro id o e h1 h2
    have hob := hw.obj id o e h1 h2
    refine hob.keep hx ?_ ?_
    · intro hl b hb; exact heap_push_old hh (hob.blk_lt hl hb).1
    · intro hl b off hb hs
      rcases hs with hs | ⟨rfl, _⟩
      · exact hs
      · have := (hob.blk_lt hl hb).1; omega
  · intro b o hs
    rcases hs with hs | ⟨rfl, hlt⟩
    · obtain ⟨v, hv⟩ := hw.st b o hs
      exact ⟨v, by rw [cell_of_heap (heap_push_old hh (cell_lt hv))]; exact hv⟩
    · have : o < c.size := by omega
      exact ⟨c[o], by rw [cell_of_block (heap_push_new hh)]; exact Array.getElem?_eq_getElem this⟩

theorem bytesV_flat (s : List UInt8) : AV.flat (bytesV s) = bytesV s := by
  induction s with
  | nil => rfl
  | cons b r ih => simp only [bytesV, List.map_cons, AV.flat] at *; rw [ih]; rfl

theorem s2bE_sound {src dst e : TypeId} {a v : AV} {ra : Value} (hw : WRel m H w) (ha : VR m w a ra) (hs : P.underlying src = some .string) (hd : P.underlying dst = some (.slice e))
    (he : P.underlying e = some (.int .u8)) (h : s2bE a = some v) : Fits P m H w (convert src dst ra) v := by
  cases ha with
  | str s =>
    simp [s2bE] at h; subst h
    have hrun := run_bytes_of_string (P := P) w src dst e ⟨s.toArray⟩ hs hd he
    have hsz : (ByteArray.mk s.toArray).size = s.length := by show s.toArray.size = _; simp
    rw [hsz] at hrun
    have hge : s.length ≤ grownCap w s.length 0 e := grownCap_ge w s.length 0 e
    have hc : ∀ j, j < s.length → (bytesRow ⟨s.toArray⟩ (grownCap w s.length 0 e))[j]? = some (Value.int .u8 ((s.getD j 0).toNat)) := by
      intro j hj
      unfold bytesRow
      rw [Array.getElem?_append_left (by simp; exact hj)]
      simp [hj]
    have hcs : s.length ≤ (bytesRow ⟨s.toArray⟩ (grownCap w s.length 0 e)).size := by
      unfold bytesRow; simp; 
    have hst := stab_push (w' := w.drew.alloc (.cells (bytesRow ⟨s.toArray⟩ (grownCap w s.length 0 e)) e ((bytesRow ⟨s.toArray⟩ (grownCap w s.length 0 e)).size, (bytesRow ⟨s.toArray⟩ (grownCap w s.length 0 e)).size + 1)))
      (n := s.length) hw rfl hcs rfl rfl rfl
    refine ⟨_, m.stab w.heap.size s.length, _, hrun, ?_, hst.1, hst.2, rfl⟩
    have hlen : (bytesV s).length = s.length := by simp [bytesV]
    have hv : VR (m.stab w.heap.size s.length) (w.drew.alloc (.cells (bytesRow ⟨s.toArray⟩ (grownCap w s.length 0 e)) e ((bytesRow ⟨s.toArray⟩ (grownCap w s.length 0 e)).size, (bytesRow ⟨s.toArray⟩ (grownCap w s.length 0 e)).size + 1)))
        (.slc .any (bytesV s)) (.slice (some ⟨w.heap.size, 0, none⟩) (bytesV s).length (grownCap w s.length 0 e)) := by
      refine .slc .any _ _ 0 _ 1 (fun j => Value.int .u8 ((s.getD j 0).toNat)) (by rw [hlen]; exact hge) ?_ ?_ ?_ trivial
      · intro u hu
        simp only [bytesV, List.mem_map] at hu
        obtain ⟨b, _, rfl⟩ := hu
        rfl
      · intro j hj
        rw [bytesV_flat, hlen] at hj
        refine ⟨.inr ⟨rfl, by omega⟩, ?_⟩
        rw [Nat.zero_add]
        exact (cell_of_block (heap_push_new (w := w) rfl) j).trans (hc j hj)
      · intro j x hx
        rw [bytesV_flat] at hx
        have hj : j < s.length := by rw [← hlen]; exact (List.getElem?_eq_some_iff.1 hx).1
        simp [bytesV, hj] at hx
        subst hx
        simp [List.getD_eq_getElem?_getD, hj]
        exact .int _ _
    rw [hlen] at hv
    exact hv
  | _ => simp [s2bE] at h

theorem unbytes_some : ∀ {es : List AV} {s : List UInt8}, unbytes es = some s → es.length = s.length ∧ (∀ e ∈ es, ∃ n, e = .int .u8 n) ∧
    es.map (fun e => match e with | .int _ n => UInt8.ofNat n.toNat | _ => 0) = s
  | [], s, h => by simp [unbytes] at h; subst h; simp
  | e :: es, s, h => by
    cases e with
    | int k n =>
      cases k <;> simp [unbytes] at h
      obtain ⟨t, h1, rfl⟩ := h
      obtain ⟨h2, h3, h4⟩ := unbytes_some h1
      exact ⟨by simp [h2], by intro e he; simp at he; rcases he with rfl | he; exact ⟨n, rfl⟩; exact h3 e he, by simp [← h4]⟩
    | _ => simp [unbytes] at h

theorem push_ints : ∀ (ns : List Int) (r : ByteArray), ns.foldl (fun r n => r.push (UInt8.ofNat n.toNat)) r = ⟨r.data ++ (ns.map fun n => UInt8.ofNat n.toNat).toArray⟩
  | [], r => by simp
  | n :: ns, r => by
    simp only [List.foldl_cons]
    rw [push_ints ns]
    apply ByteArray.ext
    simp [ByteArray.push]

theorem b2sE_sound {src dst e : TypeId} {a v : AV} {ra : Value} (hw : WRel m H w) (ha : VR m w a ra) (hs : P.underlying src = some (.slice e)) (hd : P.underlying dst = some .string)
    (he : P.underlying e = some (.int .u8)) (h : b2sE a = some v) : Fits P m H w (convert src dst ra) v := by
  have hempty : Conv.bytesToString (.slice none 0 0) = pure (.string .empty) := rfl
  cases ha with
  | slcN tk ht =>
    simp [b2sE, unbytes] at h; subst h
    refine .same hw (r := .string ⟨([] : List UInt8).toArray⟩) ?_ (.str [])
    rw [run_convert_bytes_string w src dst e none 0 0 hs he hd]
    rfl
  | slcE x c =>
    simp [b2sE, unbytes] at h; subst h
    refine .same hw (r := .string ⟨([] : List UInt8).toArray⟩) ?_ (.str [])
    rw [run_convert_bytes_string w src dst e x 0 c hs he hd]
    cases x with
    | none => rfl
    | some x => rw [run_bytesToString w x 0 c [] rfl]; rfl
  | slc tk es b o cap s r hle hss hc hv ht =>
    simp only [b2sE, Option.map_eq_some_iff] at h
    obtain ⟨bs, h1, rfl⟩ := h
    obtain ⟨h2, h3, h4⟩ := unbytes_some h1
    have hfl : AV.flat es = es := by
      clear hc hv ht hle hss h1 h2 h4
      induction es with
      | nil => rfl
      | cons x r ih =>
        obtain ⟨n, rfl⟩ := h3 x (by simp)
        simp only [AV.flat]
        rw [ih (fun e he => h3 e (by simp [he]))]
        rfl
    rw [hfl] at hc hv
    have hint : ∀ j, j < es.length → ∃ n, es[j]? = some (.int .u8 n) ∧ w.cell? ⟨b, o + j, none⟩ = some (.int .u8 n) := by
      intro j hj
      obtain ⟨n, hn⟩ := h3 es[j] (List.getElem_mem hj)
      have hg : es[j]? = some (.int .u8 n) := by rw [List.getElem?_eq_getElem hj, hn]
      have := hv j _ hg
      have hcj := (hc j hj).2
      cases hr : r j <;> rw [hr] at this <;> cases this
      rw [hr] at hcj
      exact ⟨_, hg, hcj⟩
    have hrun : (loadCells ⟨b, o, none⟩ es.length).run P w = .ok ((es.map fun e => match e with | .int _ n => n | _ => 0).map (Value.int .u8)).toArray w := by
      have := run_loadCells_list (P := P) (w := w) ⟨b, o, none⟩ ((es.map fun e => match e with | .int _ n => n | _ => 0).map (Value.int .u8)) (fun j u hu => by
        have hj : j < es.length := by have := (List.getElem?_eq_some_iff.1 hu).1; simpa using this
        obtain ⟨n, hg, hcell⟩ := hint j hj
        simp only [List.getElem?_map, hg, Option.map_some, Option.some.injEq] at hu
        rw [addr_add, hcell, hu])
      simpa using this
    refine .same hw (r := .string ⟨bs.toArray⟩) ?_ (.str bs)
    rw [run_convert_bytes_string w src dst e _ _ _ hs he hd, run_bytesToString w ⟨b, o, none⟩ es.length cap (es.map fun e => match e with | .int _ n => n | _ => 0) hrun, push_ints]
    congr 3
    simp only [← h4, List.map_map, ByteArray.data_empty, Array.empty_append]
    congr 1
    apply List.map_congr_left
    intro e he'
    obtain ⟨n, rfl⟩ := h3 e he'
    rfl
  | _ => simp [b2sE] at h

end Go.Lim
