/- Flows: sending along a way, in plain words. -/
import Derived.Test.YtmekcpbcgelliaaFlP2
namespace Go.Proofs.Ytmekcpbcgelliaa
/-- The rooms of a flow: what is left of each arc, and what it carries. -/
structure RoomOk (N : Nw) (room : List Int) : Prop where
  len : room.length = 2 * N.m
  two : ∀ i, i < N.m → gi room (2 * i) + gi room (2 * i + 1) = N.cap i ∧ 0 ≤ gi room (2 * i) ∧ 0 ≤ gi room (2 * i + 1)
def fl (room : List Int) (i : Nat) : Int := gi room (2 * i + 1)
theorem RoomOk.lo {N : Nw} {room : List Int} (h : RoomOk N room) {j : Nat} (hj : j < 2 * N.m) : 0 ≤ gi room j := by
  have := h.two (j / 2) (by omega)
  rcases Nat.mod_two_eq_zero_or_one j with e | e
  · rw [show 2 * (j / 2) = j by omega] at this; exact this.2.1
  · rw [show 2 * (j / 2) + 1 = j by omega] at this; exact this.2.2
def pushStep (N : Nw) (most : Int) (r : List Int × Int) (j : Nat) : List Int × Int := ((r.1.set j (gi r.1 j - most)).set (flip j) (gi r.1 (flip j) + most), r.2 + most * rc N j)
def mostL (room : List Int) (L : List Nat) (m : Int) : Int := L.foldl (fun m j => min m (gi room j)) m
theorem mostL_le {room : List Int} : ∀ (L : List Nat) (m : Int), mostL room L m ≤ m ∧ ∀ j ∈ L, mostL room L m ≤ gi room j
  | [], m => ⟨Int.le_refl _, fun j h => by cases h⟩
  | i :: L, m => by
    have e : mostL room (i :: L) m = mostL room L (min m (gi room i)) := rfl
    obtain ⟨h1, h2⟩ := mostL_le (room := room) L (min m (gi room i))
    rw [e]
    refine ⟨by omega, fun j hj => ?_⟩
    rcases List.mem_cons.1 hj with rfl | hj
    · omega
    · exact h2 j hj
theorem mostL_pos {room : List Int} : ∀ (L : List Nat) (m : Int), 1 ≤ m → (∀ j ∈ L, 0 < gi room j) → 1 ≤ mostL room L m
  | [], m, h, _ => h
  | i :: L, m, h, hl => by
    have e : mostL room (i :: L) m = mostL room L (min m (gi room i)) := rfl
    rw [e]
    have := hl i (by simp)
    exact mostL_pos L _ (by omega) fun j hj => hl j (by simp [hj])
section
variable {N : Nw} {costs : Bool} {room : List Int} {s t nodes : Nat} {π : Nat → Int}
theorem pth_inv {by_ : Nat → Int} {v : Nat} {L : List Nat} (h : Pth N by_ s v L) : (v = s ∧ L = []) ∨ ∃ j B, L = j :: B ∧ rto N j = v ∧ v ≠ s ∧ by_ v = (j : Int) ∧ j < 2 * N.m ∧ Pth N by_ s (rfr N j) B := by
  cases h with
  | nil => exact .inl ⟨rfl, rfl⟩
  | cons j B h1 h2 h3 h4 => exact .inr ⟨j, B, rfl, rfl, h1, h2, h3, h4⟩
theorem pth_det {by_ : Nat → Int} : ∀ {v : Nat} {L L' : List Nat}, Pth N by_ s v L → Pth N by_ s v L' → L = L' := by
  intro v L L' h
  induction h generalizing L' with
  | nil =>
    intro h'
    rcases pth_inv h' with ⟨_, h⟩ | ⟨_, _, _, _, h, _⟩
    · exact h.symm
    · exact absurd rfl h
  | cons j B h1 h2 h3 h4 ih =>
    intro h'
    rcases pth_inv h' with ⟨h, _⟩ | ⟨j', B', rfl, e2, e3, e4, e5, e6⟩
    · exact absurd h h1
    · have : j' = j := by omega
      subst this
      rw [ih e6]
theorem pth_mem {by_ : Nat → Int} {v : Nat} {L : List Nat} (h : Pth N by_ s v L) : ∀ j ∈ L, ∃ A B, L = A ++ j :: B ∧ Pth N by_ s (rto N j) (j :: B) := by
  induction h with
  | nil => intro j hj; cases hj
  | cons i B h1 h2 h3 h4 ih =>
    intro j hj
    rcases List.mem_cons.1 hj with rfl | hj
    · exact ⟨[], B, rfl, .cons j B h1 h2 h3 h4⟩
    · obtain ⟨A, B', e, hp⟩ := ih j hj
      exact ⟨i :: A, B', by rw [e]; rfl, hp⟩
theorem pth_nodup {by_ : Nat → Int} {v : Nat} {L : List Nat} (h : Pth N by_ s v L) : L.Nodup := by
  induction h with
  | nil => exact List.nodup_nil
  | cons i B h1 h2 h3 h4 ih =>
    refine List.nodup_cons.2 ⟨fun hm => ?_, ih⟩
    obtain ⟨A, B', e, hp⟩ := pth_mem h4 i hm
    have := pth_det (.cons i B h1 h2 h3 h4) hp
    have hl := congrArg List.length this
    rw [e] at hl
    simp at hl
    omega
theorem pth_facts {st : WSt} (hf : WFix N costs room s nodes π) (h : WEnd N costs room s nodes st) {v : Nat} {L : List Nat} (hp : Pth N (gi st.by_) s v L) : v < nodes → gi st.di v < FAR →
    ∀ j ∈ L, j < 2 * N.m ∧ 0 < gi room j ∧ gi st.di (rfr N j) < FAR ∧ gi st.di (rto N j) < FAR ∧ gi st.di (rfr N j) + cst N costs j = gi st.di (rto N j) := by
  induction hp with
  | nil => intro _ _ j hj; cases hj
  | cons i B h1 h2 h3 h4 ih =>
    intro hv hm j hj
    obtain ⟨i', p1, p2, p3, p4, p5, p6⟩ := h.par _ hv h1 hm
    have : i' = i := by omega
    subst this
    rcases List.mem_cons.1 hj with rfl | hj
    · exact ⟨h3, p4, p5, hm, p6⟩
    · exact ih (hf.rto h3).2 p5 j hj
/-- The new potential: how far each node is. -/
def newPot (π : Nat → Int) (di : List Int) (v : Nat) : Int := if gi di v < FAR then gi di v else π v + 200000
theorem newPot_feas {st : WSt} (hf : WFix N costs room s nodes π) (h : WEnd N costs room s nodes st) : RFeas N costs room (newPot π st.di) := by
  intro j hj hr
  obtain ⟨r1, r2⟩ := hf.rto hj
  have hfe := hf.feas j hj hr
  have p1 := hf.p0 (rto N j) r1
  unfold newPot
  by_cases e1 : gi st.di (rfr N j) < FAR
  · obtain ⟨k1, k2⟩ := h.clo j hj hr e1
    rw [if_pos e1, if_pos k1]
    omega
  · rw [if_neg e1]
    by_cases e2 : gi st.di (rto N j) < FAR
    · rw [if_pos e2]
      have := (h.d0 _ r1 e2).2
      omega
    · rw [if_neg e2]
      omega
/-- While it is sent: what holds of the arcs that are left. -/
structure PIn (N : Nw) (costs : Bool) (most : Int) (π : Nat → Int) (L : List Nat) (r : List Int × Int) : Prop where
  ok : RoomOk N r.1
  ge : ∀ j ∈ L, most ≤ gi r.1 j
  lt : ∀ j ∈ L, j < 2 * N.m
  feas : RFeas N costs r.1 π
  tight : ∀ j ∈ L, cst N costs j + π (rfr N j) - π (rto N j) = 0
  paid : r.2 = costOf N (fl r.1)
  nd : L.Nodup
theorem push_gi {r : List Int × Int} {most : Int} {j : Nat} (hl : r.1.length = 2 * N.m) (hj : j < 2 * N.m) (x : Nat) : gi (pushStep N most r j).1 x = if x = flip j then gi r.1 (flip j) + most else if x = j then gi r.1 j - most else gi r.1 x := by
  unfold pushStep
  simp only
  rw [gi_set (by rw [List.length_set, hl]; exact flip_lt hj), gi_set (by rw [hl]; exact hj)]
theorem push_fl {r : List Int × Int} {most : Int} {j : Nat} (hl : r.1.length = 2 * N.m) (hj : j < 2 * N.m) (i : Nat) : fl (pushStep N most r j).1 i = if i = j / 2 then fl r.1 i + (if j % 2 = 0 then most else - most) else fl r.1 i := by
  unfold fl
  rw [push_gi hl hj]
  unfold flip
  by_cases e : j % 2 = 0
  · simp only [if_pos e]
    by_cases e2 : i = j / 2
    · rw [if_pos (by omega), if_pos e2, show j + 1 = 2 * i + 1 by omega]
    · rw [if_neg (by omega), if_neg (by omega), if_neg e2]
  · simp only [if_neg e]
    by_cases e2 : i = j / 2
    · rw [if_neg (by omega), if_pos (by omega), if_pos e2, show j = 2 * i + 1 by omega]; omega
    · rw [if_neg (by omega), if_neg (by omega), if_neg e2]
theorem push_step {most : Int} {r : List Int × Int} {j : Nat} {L : List Nat} (hm : 0 ≤ most) (h : PIn N costs most π (j :: L) r) :
    PIn N costs most π L (pushStep N most r j) ∧ ∀ x, ex N (fl (pushStep N most r j).1) x = ex N (fl r.1) x + ((if rto N j = x then most else 0) - (if rfr N j = x then most else 0)) := by
  have hj := h.lt j (by simp)
  have hge := h.ge j (by simp)
  have hgi := push_gi (most := most) h.ok.len hj
  have hfl := push_fl (most := most) h.ok.len hj
  obtain ⟨n1, n2⟩ := List.nodup_cons.1 h.nd
  have hi : j / 2 < N.m := by omega
  refine ⟨⟨⟨?_, fun i hi => ?_⟩, fun x hx => ?_, fun x hx => h.lt x (by simp [hx]), fun x hx hr => ?_, fun x hx => h.tight x (by simp [hx]), ?_, n2⟩, fun x => ?_⟩
  · unfold pushStep
    simp only [List.length_set]
    exact h.ok.len
  · obtain ⟨t1, t2, t3⟩ := h.ok.two i hi
    rw [hgi, hgi]
    have hlo := h.ok.lo hj
    unfold flip
    by_cases e : j % 2 = 0
    · simp only [if_pos e]
      by_cases e2 : i = j / 2
      · have e3 : j = 2 * i := by omega
        rw [if_neg (by omega), if_pos (by omega), if_pos (by omega), e3]
        rw [e3] at hge hlo
        omega
      · rw [if_neg (by omega), if_neg (by omega), if_neg (by omega), if_neg (by omega)]
        exact ⟨t1, t2, t3⟩
    · simp only [if_neg e]
      by_cases e2 : i = j / 2
      · have e3 : j = 2 * i + 1 := by omega
        rw [if_pos (by omega), if_neg (by omega), if_pos (by omega), show j - 1 = 2 * i by omega, e3]
        rw [e3] at hge hlo
        omega
      · rw [if_neg (by omega), if_neg (by omega), if_neg (by omega), if_neg (by omega)]
        exact ⟨t1, t2, t3⟩
  · have h1 := h.ge x (by simp [hx])
    have hxj : x ≠ j := by rintro rfl; exact n1 hx
    rw [hgi]
    by_cases e : x = flip j
    · rw [if_pos e, ← e]; omega
    · rw [if_neg e, if_neg hxj]; exact h1
  · rw [hgi] at hr
    by_cases e : x = flip j
    · have ht := h.tight j (by simp)
      rw [e, cst_flip, rfr_flip, rto_flip]
      omega
    · rw [if_neg e] at hr
      by_cases e2 : x = j
      · rw [if_pos e2] at hr
        exact h.feas x hx (by rw [e2]; omega)
      · rw [if_neg e2] at hr
        exact h.feas x hx hr
  · show r.2 + most * rc N j = costOf N (fl (pushStep N most r j).1)
    unfold costOf
    rw [sm_set (j / 2) hi (fun i => fl r.1 i * N.cost i) (fun i => fl (pushStep N most r j).1 i * N.cost i) (fun i _ hne => by simp only [hfl, if_neg hne])]
    have e0 : sm N.m (fun i => fl r.1 i * N.cost i) = costOf N (fl r.1) := rfl
    rw [e0, ← h.paid]
    simp only [hfl, if_true]
    unfold rc
    by_cases e : j % 2 = 0
    · simp only [if_pos e, Int.add_mul]; omega
    · simp only [if_neg e, Int.add_mul, Int.neg_mul, Int.mul_neg]; omega
  · unfold ex
    rw [sm_set (j / 2) hi (fun i => (if N.to i = x then fl r.1 i else 0) - (if N.fr i = x then fl r.1 i else 0)) (fun i => (if N.to i = x then fl (pushStep N most r j).1 i else 0) - (if N.fr i = x then fl (pushStep N most r j).1 i else 0)) (fun i _ hne => by simp only [hfl, if_neg hne])]
    congr 1
    simp only [hfl, if_true]
    unfold rto rfr
    by_cases e : j % 2 = 0
    · simp only [if_pos e]
      by_cases a : N.to (j / 2) = x <;> by_cases b : N.fr (j / 2) = x <;> simp [a, b] <;> omega
    · simp only [if_neg e]
      by_cases a : N.to (j / 2) = x <;> by_cases b : N.fr (j / 2) = x <;> simp [a, b] <;> omega
theorem push_all {most : Int} {by_ : Nat → Int} (hm : 0 ≤ most) {v : Nat} {L : List Nat} (hp : Pth N by_ s v L) : ∀ r, PIn N costs most π L r →
    PIn N costs most π [] (L.foldl (pushStep N most) r) ∧ ∀ x, ex N (fl (L.foldl (pushStep N most) r).1) x = ex N (fl r.1) x + ((if v = x then most else 0) - (if s = x then most else 0)) := by
  induction hp with
  | nil => intro r h; exact ⟨h, fun x => by simp⟩
  | cons j B h1 h2 h3 h4 ih =>
    intro r h
    obtain ⟨k1, k2⟩ := push_step hm h
    obtain ⟨k3, k4⟩ := ih _ k1
    refine ⟨k3, fun x => ?_⟩
    have := k4 x
    rw [k2 x] at this
    rw [List.foldl_cons, this]
    omega
/-- A flow, as it is kept. -/
structure FlowSt (N : Nw) (costs : Bool) (nodes s t : Nat) (room : List Int) (value paid : Int) : Prop where
  ok : RoomOk N room
  even : ∀ v, v < nodes → v ≠ s → v ≠ t → ex N (fl room) v = 0
  val : value = - ex N (fl room) s
  paid : paid = costOf N (fl room)
  feas : ∃ π, RFeas N costs room π ∧ π s = 0 ∧ ∀ v, v < nodes → 0 ≤ π v
/-- The network is right. -/
structure NwOk (N : Nw) (nodes s t : Nat) : Prop where
  sn : s < nodes
  tn : t < nodes
  st : s ≠ t
  nn : nodes ≤ 200
  mm : N.m ≤ 4000
  ends : InN N nodes
  self : ∀ i, i < N.m → N.fr i ≠ N.to i
  cap : ∀ i, i < N.m → 0 ≤ N.cap i ∧ N.cap i ≤ 200
  cost : ∀ i, i < N.m → 0 ≤ N.cost i ∧ N.cost i ≤ 1000
  sum : sm N.m (fun i => if N.fr i = s then N.cap i else 0) ≤ 200
theorem FlowSt.isFlow {value paid : Int} (h : FlowSt N costs nodes s t room value paid) : IsFlow N nodes s t (fl room) :=
  ⟨fun i hi => (h.ok.two i hi).2.2, fun i hi => by have := h.ok.two i hi; unfold fl; omega, h.even⟩
theorem FlowSt.bounds {value paid : Int} (h : FlowSt N costs nodes s t room value paid) (hn : NwOk N nodes s t) : value ≤ 200 := by
  have hf := h.isFlow
  have : - ex N (fl room) s ≤ sm N.m (fun i => if N.fr i = s then N.cap i else 0) := by
    unfold ex
    rw [← sm_neg]
    refine sm_le fun i hi => ?_
    have := hf.lo i hi
    have := hf.hi i hi
    have := (hn.cap i hi).1
    by_cases a : N.to i = s <;> by_cases b : N.fr i = s <;> simp [a, b] <;> omega
  have := hn.sum
  have := h.val
  omega
theorem paid_bounds (hn : NwOk N nodes s t) {room : List Int} (ok : RoomOk N room) : 0 ≤ costOf N (fl room) ∧ costOf N (fl room) ≤ 800000000 := by
  have h1 : ∀ i, i < N.m → 0 ≤ fl room i ∧ fl room i ≤ 200 := fun i hi => by
    have := ok.two i hi
    have := hn.cap i hi
    unfold fl
    omega
  refine ⟨sm_nonneg fun i hi => Int.mul_nonneg (h1 i hi).1 (hn.cost i hi).1, ?_⟩
  have h2 : costOf N (fl room) ≤ N.m * 200000 := sm_bound fun i hi => by
    have a := h1 i hi
    have b := hn.cost i hi
    calc fl room i * N.cost i ≤ 200 * N.cost i := Int.mul_le_mul_of_nonneg_right a.2 b.1
      _ ≤ 200 * 1000 := Int.mul_le_mul_of_nonneg_left b.2 (by omega)
      _ = 200000 := rfl
  have := hn.mm
  omega
theorem FlowSt.fix {value paid : Int} (h : FlowSt N costs nodes s t room value paid) (hn : NwOk N nodes s t) : ∃ π, WFix N costs room s nodes π := by
  obtain ⟨π, h1, h2, h3⟩ := h.feas
  exact ⟨π, hn.sn, hn.nn, hn.ends, h1, h2, h3, fun j hj => h.ok.lo hj, hn.cost⟩
theorem NwOk.selfR (hn : NwOk N nodes s t) : ∀ j, j < 2 * N.m → rto N j ≠ rfr N j := fun j hj => by
  have := hn.self (j / 2) (by omega)
  unfold rto rfr
  split
  · exact fun e => this e.symm
  · exact this
/-- What is ready to be sent along the way that was found. -/
theorem FlowSt.ready {value paid : Int} (h : FlowSt N costs nodes s t room value paid) (hn : NwOk N nodes s t) {π : Nat → Int} (hf : WFix N costs room s nodes π) {st : WSt} (hw : WEnd N costs room s nodes st) (hm : gi st.di t < FAR) :
    ∃ L, Pth N (gi st.by_) s t L ∧ PIn N costs (mostL room L 200) (newPot π st.di) L (room, paid) ∧ 1 ≤ mostL room L 200 ∧ mostL room L 200 ≤ 200 := by
  obtain ⟨L, hL⟩ := hw.pth t hn.tn hm
  have hfa := pth_facts hf hw hL hn.tn hm
  obtain ⟨m1, m2⟩ := mostL_le (room := room) L 200
  exact ⟨L, hL, ⟨h.ok, m2, fun j hj => (hfa j hj).1, newPot_feas hf hw, fun j hj => by
    obtain ⟨f1, f2, f3, f4, f5⟩ := hfa j hj
    unfold newPot
    rw [if_pos f3, if_pos f4]
    omega, h.paid, pth_nodup hL⟩, mostL_pos L 200 (by omega) fun j hj => (hfa j hj).2.1, m1⟩
/-- Sent. -/
theorem FlowSt.sent {value paid : Int} (h : FlowSt N costs nodes s t room value paid) (hn : NwOk N nodes s t) {π : Nat → Int} (hf : WFix N costs room s nodes π) {st : WSt} (hw : WEnd N costs room s nodes st) {L : List Nat} {most : Int} (hp : Pth N (gi st.by_) s t L) (hm : 0 ≤ most) (hi : PIn N costs most (newPot π st.di) L (room, paid)) :
    FlowSt N costs nodes s t (L.foldl (pushStep N most) (room, paid)).1 (value + most) (L.foldl (pushStep N most) (room, paid)).2 := by
  obtain ⟨k1, k2⟩ := push_all hm hp _ hi
  refine ⟨k1.ok, fun v hv h1 h2 => ?_, ?_, k1.paid, newPot π st.di, k1.feas, ?_, fun v hv => ?_⟩
  · rw [k2 v, if_neg (fun e => h2 e.symm), if_neg (fun e => h1 e.symm)]
    have := h.even v hv h1 h2
    simp only at this ⊢
    omega
  · rw [k2 s, if_neg (fun e => hn.st e.symm), if_pos rfl]
    have := h.val
    simp only
    omega
  · unfold newPot
    rw [hw.ds]
    exact if_pos (by decide)
  · unfold newPot
    split
    · rename_i e2
      exact (hw.d0 v hv e2).1
    · have := hf.p0 v hv; omega
/-- No way leads to t: the flow is a greatest one. -/
theorem FlowSt.done {value paid : Int} (h : FlowSt N costs nodes s t room value paid) (hn : NwOk N nodes s t) {st : WSt} (hw : WEnd N costs room s nodes st) (hm : ¬ gi st.di t < FAR) :
    cutCap N (fun v => decide (gi st.di v < FAR)) = value ∧ MaxIs N nodes s t value ∧ (costs = true → CheapIs N nodes s t value paid) := by
  have hc : cutCap N (fun v => decide (gi st.di v < FAR)) = value := by
    rw [h.val]
    refine (cut_eq hn.ends h.isFlow hn.sn hn.tn hn.st _ ?_ (by simpa using hm) (fun i hi h1 h2 => ?_) (fun i hi h1 h2 => ?_)).symm
    · simp only [decide_eq_true_eq]; rw [hw.ds]; decide
    · have h3 := h.ok.two i hi
      have e0 : (2 * i) % 2 = 0 := by omega
      have e1 : 2 * i / 2 = i := by omega
      have h4 := hw.clo (2 * i) (by omega)
      unfold rto rfr at h4
      simp only [if_pos e0, e1] at h4
      simp only [decide_eq_true_eq, decide_eq_false_iff_not] at h1 h2
      have : ¬ 0 < gi room (2 * i) := fun h5 => h2 (h4 h5 h1).1
      unfold fl
      omega
    · have h3 := h.ok.two i hi
      have e0 : ¬ (2 * i + 1) % 2 = 0 := by omega
      have e1 : (2 * i + 1) / 2 = i := by omega
      have h4 := hw.clo (2 * i + 1) (by omega)
      unfold rto rfr at h4
      simp only [if_neg e0, e1] at h4
      simp only [decide_eq_true_eq, decide_eq_false_iff_not] at h1 h2
      have : ¬ 0 < gi room (2 * i + 1) := fun h5 => h2 (h4 h5 h1).1
      unfold fl
      omega
  have hmax : MaxIs N nodes s t value := ⟨⟨_, h.isFlow, h.val.symm⟩, _, by simp only [decide_eq_true_eq]; rw [hw.ds]; decide, by simpa using hm, Int.le_of_eq hc⟩
  refine ⟨hc, hmax, fun hcs => ⟨hmax, fl room, ?_⟩⟩
  subst hcs
  obtain ⟨π, hp, _⟩ := h.feas
  refine ⟨π, h.isFlow, h.val.symm, h.paid.symm, fun i hi => ?_⟩
  have h3 := h.ok.two i hi
  have e0 : (2 * i) % 2 = 0 := by omega
  have e1 : 2 * i / 2 = i := by omega
  have f0 : ¬ (2 * i + 1) % 2 = 0 := by omega
  have f1 : (2 * i + 1) / 2 = i := by omega
  have a := hp (2 * i) (by omega)
  have b := hp (2 * i + 1) (by omega)
  unfold cst rc rto rfr at a b
  simp only [if_true, if_pos e0, e1] at a
  simp only [if_true, if_neg f0, f1] at b
  unfold fl
  exact ⟨fun h => a (by omega), fun h => by have := b h; omega⟩
end
end Go.Proofs.Ytmekcpbcgelliaa
