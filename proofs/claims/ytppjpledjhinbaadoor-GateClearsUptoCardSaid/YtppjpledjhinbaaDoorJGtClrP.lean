/- GateClears in plain words: who is taken, who couldn't be, and the other way round. -/
import Derived.Test.YtppjpledjhinbaaDoorJGtGrd
namespace Go.Proofs.YtppjpledjhinbaaDoor
open Go.RowKit Go.Lib
def whoZ : MWho := ⟨0, false, false⟩
def takeW (ws : List MWho) (D : List Nat) : List MWho := D.map fun i => ws.getD i whoZ
structure ClearsP (l : List MRow) (sure ws : List MWho) (D : List Nat) : Prop where
  out : (clearSt l (sure.map rider) ws).2.1 = D.map fun i : Nat => (i : Int)
  lt : ∀ i ∈ D, i < ws.length
  up : D.Pairwise (· < ·)
  fits : fitL l ((sure ++ takeW ws D).map rider) = true
  no : ∀ i, i < ws.length → i ∉ D → fitL l ((sure ++ takeW ws D ++ [ws.getD i whoZ]).map rider) = false
  back : (clearSt l (sure.map rider) ws.reverse).2.1.length = D.length
theorem rider_at (sure ws : List MWho) {i : Nat} (h1 : sure.length ≤ i) (h2 : i < sure.length + ws.length) : (sure.map rider ++ ws.map rider).getD i ⟨⟨0, false, false⟩, ⟨0, 0⟩⟩ = rider (ws.getD (i - sure.length) whoZ) := by
  have h3 : i - sure.length < ws.length := by omega
  rw [List.getD_eq_getElem?_getD, List.getElem?_append_right (by simpa using h1), List.length_map, List.getElem?_map, List.getD_eq_getElem?_getD, List.getElem?_eq_getElem h3]
  rfl
theorem clears_ok (l : List MRow) (sure ws : List MWho) (hN : sure.length + ws.length < 100) (hf : fitL l (sure.map rider) = true) : ∃ D, ClearsP l sure ws D := by
  obtain ⟨R, hR⟩ : ∃ R, sure.map rider ++ ws.map rider = R := ⟨_, rfl⟩
  have hRl : R.length = sure.length + ws.length := by rw [← hR]; simp
  have hs : atP R (List.range sure.length) = sure.map rider := by
    have := atP_fst (sure.map rider) (ws.map rider)
    rw [hR, List.length_map] at this
    exact this
  have hL : atP R (List.range' sure.length ws.length) = ws.map rider := by
    have := atP_snd (sure.map rider) (ws.map rider)
    rw [hR, List.length_map, List.length_map] at this
    exact this
  have hLr : atP R (List.range' sure.length ws.length).reverse = ws.reverse.map rider := by
    rw [List.map_reverse, ← hL]
    unfold atP
    rw [List.map_reverse]
  have hnd : (List.range sure.length ++ List.range' sure.length ws.length).Nodup := by rw [range_two]; exact List.nodup_range
  have hlt : ∀ i ∈ List.range sure.length ++ List.range' sure.length ws.length, i < R.length := fun i hi => by
    rw [range_two, List.mem_range] at hi; omega
  have hpm : (List.range sure.length ++ (List.range' sure.length ws.length).reverse).Perm (List.range sure.length ++ List.range' sure.length ws.length) := List.Perm.append_left _ (List.reverse_perm _)
  obtain ⟨T, a, b⟩ := clear_run l R (fun i => (i : Int) - sure.length) (List.range' sure.length ws.length) ws (List.range sure.length) [] 0 hL.symm (fun j hj => by
    rw [List.getElem_range']; omega)
  obtain ⟨T', a', b'⟩ := clear_run l R (fun i => (sure.length : Int) + ws.length - 1 - i) (List.range' sure.length ws.length).reverse ws.reverse (List.range sure.length) [] 0 hLr.symm (fun j hj => by
    have h1 : j < ws.length := by simpa using hj
    rw [List.getElem_reverse, List.getElem_range', List.length_range']; omega)
  obtain ⟨T1, c1, c2, c3, c4⟩ := cl_run l R (by omega) (List.range' sure.length ws.length) (List.range sure.length) hnd hlt
  obtain rfl : T = T1 := List.append_cancel_left (a.symm.trans c1)
  rw [hs] at b b'
  have hf' : fitL l (atP R (List.range sure.length)) = true := by rw [hs]; exact hf
  have e1 := cl_same l R (by omega) hnd hlt (hpm.nodup_iff.2 hnd) (fun i => (List.mem_reverse).symm) hf' a a'
  have e2 := cl_same l R (by omega) (hpm.nodup_iff.2 hnd) (fun i hi => hlt i (hpm.mem_iff.1 hi)) hnd (fun i => List.mem_reverse) hf' a' a
  have hin : ∀ i ∈ T, sure.length ≤ i ∧ i < sure.length + ws.length := fun i hi => by
    have := c2.subset hi
    rw [List.mem_range'_1] at this
    omega
  have htk : (takeW ws (T.map fun i => i - sure.length)).map rider = atP R T := by
    unfold takeW atP
    rw [List.map_map, List.map_map]
    refine List.map_congr_left fun i hi => ?_
    have := hin i hi
    rw [← hR, rider_at sure ws this.1 this.2]
    rfl
  have hall : (sure ++ takeW ws (T.map fun i => i - sure.length)).map rider = atP R (List.range sure.length ++ T) := by
    rw [List.map_append, htk, atP_app, hs]
  refine ⟨T.map fun i => i - sure.length, ?_, fun i hi => ?_, ?_, ?_, fun i hi hni => ?_, ?_⟩
  · show (ws.foldl (clearS l) (sure.map rider, [], 0)).2.1 = _
    rw [b]
    simp only [List.nil_append, List.map_map]
    refine List.map_congr_left fun i hi => ?_
    have := hin i hi
    simp only [Function.comp]
    omega
  · obtain ⟨j, hj, rfl⟩ := List.mem_map.1 hi
    have := hin j hj
    omega
  · have h1 : T.Pairwise (· < ·) := List.Pairwise.sublist c2 (List.pairwise_lt_range')
    rw [List.pairwise_map]
    exact h1.imp_of_mem fun {x y} hx hy hlt => by
      have := hin x hx
      have := hin y hy
      omega
  · rw [hall]; exact c3 hf'
  · have hm : sure.length + i ∈ List.range' sure.length ws.length := by rw [List.mem_range'_1]; omega
    have hno : sure.length + i ∉ T := fun h => hni (List.mem_map.2 ⟨_, h, by omega⟩)
    have h1 := c4 _ hm hno
    rw [List.map_append, hall, ← h1, atP_app R (List.range sure.length ++ T)]
    congr 2
    have := rider_at sure ws (i := sure.length + i) (by omega) (by omega)
    rw [hR] at this
    have e : sure.length + i - sure.length = i := by omega
    rw [e] at this
    exact congrArg (fun x => [x]) this.symm
  · show (ws.reverse.foldl (clearS l) (sure.map rider, [], 0)).2.1.length = _
    rw [b']
    simp only [List.nil_append, List.length_map]
    omega
end Go.Proofs.YtppjpledjhinbaaDoor
