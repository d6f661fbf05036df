import Derived.Test.YtalahofbjnmndaaDoorLimV35a
namespace Go.Proofs
open Go.RowKit Go.Lim

def pairV (k : ByteArray × ByteArray) : Value := .agg #[.string k.1, .string k.2]

def itLeft (n r : Nat) (w : World) : Nat := match w.heap[r]? with | some (.mapIter _ _ seen _) => n - seen.size | _ => 0
theorem left_mem {ms : Array MapEntry} {ck : Nat} (h : MB ms ck) {seen : Array Nat} {e : MapEntry} (he : e ∈ (leftOf ms seen).toList) : ∃ j, ∃ h : j < ms.size, e = ms[j] ∧ e.born = j ∧ j ∉ seen.toList := by
  unfold leftOf at he
  simp at he
  obtain ⟨h1, h2⟩ := he
  obtain ⟨j, hj, rfl⟩ := Array.getElem_of_mem h1
  have hb : (ms[j]).born = j := by
    have h1 : (ms.toList.map (·.born))[j]? = some j := by rw [h.1]; exact List.getElem?_range hj
    simpa [hj] using h1
  exact ⟨j, hj, rfl, hb, by rw [hb] at h2; simpa using h2⟩
theorem left_none {ms : Array MapEntry} {ck : Nat} (h : MB ms ck) {seen : Array Nat} (hnd : seen.toList.Nodup) (hlt : ∀ j ∈ seen.toList, j < ms.size) (h0 : (leftOf ms seen).size = 0) : seen.toList.Perm (List.range ms.size) := by
  refine (List.perm_ext_iff_of_nodup hnd List.nodup_range).2 fun j => ⟨fun hj => List.mem_range.2 (hlt j hj), fun hj => ?_⟩
  have hj := List.mem_range.1 hj
  rcases Classical.em (j ∈ seen.toList) with h1 | h1
  · exact h1
  · exfalso
    have hb : (ms[j]).born = j := by
      have h1 : (ms.toList.map (·.born))[j]? = some j := by rw [h.1]; exact List.getElem?_range hj
      simpa [hj] using h1
    have : ms[j] ∈ leftOf ms seen := by
      unfold leftOf
      simp [hb]
      simpa using h1
    have := Array.size_pos_of_mem this
    omega

set_option maxRecDepth 100000 in
set_option maxHeartbeats 2000000 in
/-- The keys come, each once, in some order; or a round says: no more. -/
theorem Tryd.keys70 (F : Fence) (n : Nat) (h10 : F.fn 70) (hro : F.round = none) (hn : 1 ≤ n) (l Bm b ck : Nat) (ms : Array MapEntry) (K : Nat → ByteArray × ByteArray) (hK : ∀ j (h : j < ms.size), (ms[j]).key = pairV (K j))
    (hmb : MB ms ck) (J Jx : List Nat → World → Prop)
    (hY : ∀ pre x W, J pre W → pre.length < ms.size → YieldAt F (n - 1) Tryd.prog l #[pairV (K x)] W fun e W' =>
      (e = .returned (.bool true) ∧ J (pre ++ [x]) W' ∧ KeepsWalks W W') ∨ (e = .returned (.bool false) ∧ Jx (pre ++ [x]) W'))
    (W : World) (hJ : AbidesFrom W.heap.size J) (hm : W.cell? ⟨Bm, 0, none⟩ = some (.map (some b))) (hb : W.heap[b]? = some (.map ms ck)) (h0 : J [] W) :
    CallsIn F n Tryd.prog 70 #[.func (.yield l) #[] #[], .pointer (some ⟨Bm, 0, none⟩)] W fun e W' => (∃ v, e = .returned v) ∧
      ((∃ xs : List Nat, xs.Perm (List.range ms.size) ∧ J xs W') ∨ (∃ pre : List Nat, True ∧ Jx pre W')) := by
  refine callsIn_of_wp Tryd.func70 rfl h10 ?_ hro
  simp only [Tryd.ntmps70, List.size_toArray, List.length_cons, List.length_nil, Nat.reduceAdd, Nat.reduceSub, Array.replicate_succ, Array.replicate_zero, List.push_toArray, List.append_toArray, List.nil_append, List.cons_append]
  gi_wp2_with (first
    | (gi_at_range; refine wpListIn_range_raw rfl _ 48 64 _ rfl Tryd.underlying48 b ms ck rfl hb ?_)
    | gi_in)
  go_frame
  have hbl : b < W.heap.size := (Array.getElem?_eq_some_iff.1 hb).1
  gi_loopw [3] (fun _ wr => ∃ (seen : Array Nat) (c0 : Nat), wr.heap[b]? = some (.map ms ck) ∧ wr.heap[W.heap.size]? = some (.mapIter (some b) ck seen c0) ∧ ck ≤ c0 ∧ seen.toList.Nodup ∧ (∀ j ∈ seen.toList, j < ms.size) ∧ J seen.toList wr)
    (fun _ wr => itLeft ms.size W.heap.size wr)
  case atStart =>
    refine ⟨#[], ck, ?_, ?_, Nat.le_refl _, by simp, by simp, ?_⟩
    · exact (Below.heap_alloc W _ b hbl).trans hb
    · exact World.alloc_heap_new W _
    · exact hJ [] W _ none h0 (World.grownBy_alloc W _ none) (fun r e => by cases e)
  case round =>
    obtain ⟨seen, c0, hb1, hr1, hc0, hnd, hlt, hJs⟩ := hrel
    have hold : ∀ x ∈ ms.toList, x.born < ck := fun x hx => by
      have : x.born ∈ ms.toList.map (·.born) := List.mem_map.2 ⟨x, hx, rfl⟩
      rw [hmb.1, List.mem_range] at this
      rw [hmb.2]; exact this
    have hnb : (ms.toList.map (·.born)).Nodup := by rw [hmb.1]; exact List.nodup_range
    gi_wp2_with (first
      | (gi_at_next; refine wpListIn_next_raw rfl _ rfl W.heap.size b ck c0 ck seen ms rfl hr1 hb1 hold hc0 ?_ ?_)
      | gi_in)
    · intro hz
      gi_wp2
      go_end0
      exact ⟨⟨_, rfl⟩, .inl ⟨_, left_none hmb hnd hlt (by rw [hz]; rfl), hJs⟩⟩
    · intro e w1 he hw1
      obtain ⟨j, hj, rfl, hbj, hns⟩ := left_mem hmb (by simpa using he)
      obtain ⟨w2, hw2⟩ : ∃ w2, ChangeMaps.setBlock w1 W.heap.size (.mapIter (some b) ck (seen.push (ms[j]).born) ck) = w2 := ⟨_, rfl⟩
      rw [hw2]
      have hlw : W.heap.size < w1.heap.size := by
        have := (Array.getElem?_eq_some_iff.1 hr1).1
        rcases hw1 with rfl | rfl <;> exact this
      have hr2 : w2.heap[W.heap.size]? = some (.mapIter (some b) ck (seen.push (ms[j]).born) ck) := by rw [← hw2]; simp [ChangeMaps.setBlock, hlw]
      have hoth : ∀ k, k ≠ W.heap.size → w2.heap[k]? = wr.heap[k]? := fun k hk => by
        rw [← hw2]
        simp only [ChangeMaps.setBlock]
        rw [Array.getElem?_setIfInBounds_ne (Ne.symm hk)]
        rcases hw1 with rfl | rfl <;> rfl
      have hb2 : w2.heap[b]? = some (.map ms ck) := (hoth b (by omega)).trans hb1
      have hgr : wr.grownBy w2 (some W.heap.size) := ⟨by rw [← hw2]; rcases hw1 with rfl | rfl <;> rfl, by rw [← hw2]; rcases hw1 with rfl | rfl <;> rfl, by rw [← hw2]; rcases hw1 with rfl | rfl <;> rfl,
        by rw [← hw2]; rcases hw1 with rfl | rfl <;> simp [ChangeMaps.setBlock], fun k _ hk => hoth k (fun e => hk (by rw [e]))⟩
      have hJ2 : J seen.toList w2 := hJ _ wr w2 (some W.heap.size) hJs hgr (fun r e => by cases e; exact ⟨Nat.le_refl _, _, hr1, rfl⟩)
      have hen := run_entry_at (P := Tryd.prog) w2 W.heap.size b ck seen ms ck ms[j] hr2 hb2 (by simp) hnb
      rw [hK j hj] at hen ⊢
      unfold pairV at hen ⊢
      have hcard : seen.toList.length < ms.size := by
        have := (List.nodup_cons.2 ⟨hns, hnd⟩).length_le_of_subset (l₂ := List.range ms.size) (fun x hx => by
          rcases List.mem_cons.1 hx with rfl | hx
          · exact List.mem_range.2 hj
          · exact List.mem_range.2 (hlt x hx))
        simp at this ⊢; omega
      have hJ3 : J seen.toList (w2.alloc (.cells #[.string (K j).1, .string (K j).2] 64)) := hJ _ w2 _ none hJ2 (World.grownBy_alloc w2 _ none) (fun r e => by cases e)
      obtain ⟨fn, tmps, assign, body, hy, hR⟩ := hY seen.toList j _ hJ3 hcard
      unfold pairV at hy
      have hb3 : (w2.alloc (.cells #[.string (K j).1, .string (K j).2] 64)).heap[b]? = some (.map ms ck) := (Below.heap_alloc w2 _ b (Array.getElem?_eq_some_iff.1 hb2).1).trans hb2
      have hr3 : (w2.alloc (.cells #[.string (K j).1, .string (K j).2] 64)).heap[W.heap.size]? = some (.mapIter (some b) ck (seen.push (ms[j]).born) ck) := (Below.heap_alloc w2 _ _ (Array.getElem?_eq_some_iff.1 hr2).1).trans hr2
      gi_wp2
      refine hR.mono ?_
      have hpush : (seen.push (ms[j]).born).toList = seen.toList ++ [j] := by rw [hbj]; simp
      rintro e W3 (⟨rfl, hJ4, hk3⟩ | ⟨rfl, hJx3⟩)
      · gi_wp2
        go_roundw
        case rel =>
          refine ⟨seen.push (ms[j]).born, ck, hk3.same b _ hb3 rfl, hk3.same _ _ hr3 rfl, Nat.le_refl _, ?_, ?_, ?_⟩
          · rw [hpush]; exact List.nodup_append.2 ⟨hnd, by simp, fun x hx y hy => by simp at hy; subst hy; intro e; subst e; exact hns hx⟩
          · rw [hpush]; intro x hx; rcases List.mem_append.1 hx with hx | hx
            · exact hlt x hx
            · simp at hx; subst hx; exact hj
          · rw [hpush]; exact hJ4
        case measure =>
          have e1 : itLeft ms.size W.heap.size W3 = ms.size - (seen.size + 1) := by
            unfold itLeft; rw [hk3.same _ _ hr3 rfl]; simp
          have e2 : itLeft ms.size W.heap.size wr = ms.size - seen.size := by
            unfold itLeft; rw [hr1]
          rw [e1, e2]
          simp at hcard; omega
      · gi_wp2
        refine bodyPost_ret (results_none rfl _ _ _) rfl ?_
        exact ⟨⟨_, rfl⟩, .inr ⟨_, trivial, hJx3⟩⟩
end Go.Proofs
