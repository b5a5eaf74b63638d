/- Riders and seats that fit them, as edges: their greatest matching is what Most answers (plain). -/
import Derived.Test.YtegpanfcjfcaeaaDoorJRsTnyQ
import Derived.Test.YtegpanfcjfcaeaaDoorJFlMem
import Derived.Test.YtegpanfcjfcaeaaDoorJFlP3
import Derived.Test.YtegpanfcjfcaeaaDoorJTm17C
import Derived.Test.YtegpanfcjfcaeaaDoorJRsLivP
import Derived.Test.YtegpanfcjfcaeaaDoorJRsMore
namespace Go.Proofs.YtegpanfcjfcaeaaDoor
open Go.RowKit Go.Lib
def fitsJ (S : List MSpot) (x : MWho) (j : Nat) : Bool := (S[j]?.map fun s => decide (oneE x s = 0)).getD false
def edR (S : List MSpot) (x : MWho) (i k : Nat) : List Eg := ((List.range k).filter (fitsJ S x)).map fun (j : Nat) => ((i : Int), (j : Int))
def whoZ : MWho := ⟨0, false, false⟩
def whoAt (rs : List MSit) (i : Nat) : MWho := (rs[i]?.map (·.who)).getD whoZ
def edT (S : List MSpot) (rs : List MSit) (n : Nat) : List Eg := (List.range n).flatMap fun i => edR S (whoAt rs i) i S.length
theorem edR_zero (S : List MSpot) (x : MWho) (i : Nat) : edR S x i 0 = [] := rfl
theorem edR_succ (S : List MSpot) (x : MWho) (i k : Nat) : edR S x i (k + 1) = edR S x i k ++ (if fitsJ S x k = true then [((i : Int), (k : Int))] else []) := by
  unfold edR
  rw [List.range_succ, List.filter_append, List.map_append]
  congr 1
  by_cases h : fitsJ S x k = true <;> simp [h]
theorem fitsJ_at {S : List MSpot} {j : Nat} (hj : j < S.length) (x : MWho) : fitsJ S x j = decide (oneE x S[j] = 0) := by
  unfold fitsJ; rw [List.getElem?_eq_getElem hj]; rfl
theorem edT_succ {S : List MSpot} {rs : List MSit} {i : Nat} (hi : i < rs.length) : edT S rs (i + 1) = edT S rs i ++ edR S rs[i].who i S.length := by
  unfold edT
  rw [List.range_succ, List.flatMap_append]
  congr 1
  simp [whoAt, hi]
theorem edR_len (S : List MSpot) (x : MWho) (i k : Nat) : (edR S x i k).length ≤ k := by
  unfold edR
  rw [List.length_map]
  have := List.length_filter_le (fitsJ S x) (List.range k)
  rw [List.length_range] at this
  exact this
theorem edT_len (S : List MSpot) (rs : List MSit) : ∀ n, (edT S rs n).length ≤ n * S.length := by
  intro n
  induction n with
  | zero => simp [edT]
  | succ n ih =>
    have e : edT S rs (n + 1) = edT S rs n ++ edR S (whoAt rs n) n S.length := by
      unfold edT
      rw [List.range_succ, List.flatMap_append]
      simp
    rw [e, List.length_append, Nat.add_mul, Nat.one_mul]
    have := edR_len S (whoAt rs n) n S.length
    omega
theorem mem_edT {S : List MSpot} {rs : List MSit} {e : Eg} : e ∈ edT S rs rs.length ↔ ∃ i j : Nat, ∃ (hi : i < rs.length) (hj : j < S.length), e = ((i : Int), (j : Int)) ∧ oneE rs[i].who S[j] = 0 := by
  unfold edT edR
  simp only [List.mem_flatMap, List.mem_range, List.mem_map, List.mem_filter]
  constructor
  · rintro ⟨i, hi, j, ⟨hj, hf⟩, rfl⟩
    refine ⟨i, j, hi, hj, rfl, ?_⟩
    rw [fitsJ_at hj] at hf
    simpa [whoAt, hi] using hf
  · rintro ⟨i, j, hi, hj, rfl, h⟩
    refine ⟨i, hi, j, ⟨hj, ?_⟩, rfl⟩
    rw [fitsJ_at hj]
    simpa [whoAt, hi] using h
theorem edT_in {S : List MSpot} {rs : List MSit} : ∀ e ∈ edT S rs rs.length, (0 ≤ e.1 ∧ e.1 < (rs.length : Int)) ∧ (0 ≤ e.2 ∧ e.2 < (S.length : Int)) := by
  intro e he
  obtain ⟨i, j, hi, hj, rfl, _⟩ := mem_edT.1 he
  simp only
  omega
theorem mem_natT {S : List MSpot} {rs : List MSit} {p : Nat × Nat} : p ∈ natE (edT S rs rs.length) ↔ ∃ (hi : p.1 < rs.length) (hj : p.2 < S.length), oneE rs[p.1].who S[p.2] = 0 := by
  unfold natE
  rw [List.mem_map]
  constructor
  · rintro ⟨e, he, rfl⟩
    obtain ⟨i, j, hi, hj, rfl, h⟩ := mem_edT.1 he
    exact ⟨hi, hj, h⟩
  · rintro ⟨hi, hj, h⟩
    exact ⟨((p.1 : Int), (p.2 : Int)), mem_edT.2 ⟨p.1, p.2, hi, hj, rfl, h⟩, by simp⟩
section
variable {l : List MRow} {rs : List MSit}
theorem spot_idx {i j : Nat} (hi : i < (spotsL l).length) (hj : j < (spotsL l).length) (e : (spotsL l)[i].seat = (spotsL l)[j].seat) : i = j := by
  have := (spots_distinct l).1
  rw [List.pairwise_iff_getElem] at this
  rcases Nat.lt_trichotomy i j with h | h | h
  · exact absurd e (this i j hi hj h)
  · exact h
  · exact absurd e.symm (this j i hj hi h)
theorem nodup_snd {M : Es} (h : (M.map Prod.snd).Nodup) {p q : Nat × Nat} (hp : p ∈ M) (hq : q ∈ M) (e : p.2 = q.2) : p = q := by
  obtain ⟨i, hi, rfl⟩ := List.getElem_of_mem hp
  obtain ⟨j, hj, rfl⟩ := List.getElem_of_mem hq
  unfold List.Nodup at h
  rw [List.pairwise_map, List.pairwise_iff_getElem] at h
  rcases Nat.lt_trichotomy i j with h3 | h3 | h3
  · exact absurd e (h i j hi hj h3)
  · subst h3; rfl
  · exact absurd e.symm (h j i hj hi h3)
/-- A matching is a seating. -/
theorem match_le (hn : rs.length < 100) (hi : ∀ x ∈ rs, x.who.inf = false) {k : Nat} (h : HasM (natE (edT (spotsL l) rs rs.length)) k) : (k : Int) ≤ seatedM l rs := by
  obtain ⟨M, hk, hM, h1, h2⟩ := h
  have hin : ∀ p ∈ M, ∃ (hi : p.1 < rs.length) (hj : p.2 < (spotsL l).length), oneE rs[p.1].who (spotsL l)[p.2] = 0 := fun p hp => mem_natT.1 (hM p hp)
  obtain ⟨sf, hsf⟩ : ∃ sf : Nat → Option MSeat, sf = fun i => (M.find? fun p => decide (p.1 = i)).bind fun p => (spotsL l)[p.2]?.map (·.seat) := ⟨_, rfl⟩
  have get : ∀ i s, sf i = some s → ∃ p ∈ M, p.1 = i ∧ ∃ hj : p.2 < (spotsL l).length, (spotsL l)[p.2].seat = s := fun i s h => by
    rw [hsf] at h
    simp only at h
    cases hf : M.find? fun p => decide (p.1 = i) with
    | none => rw [hf] at h; cases h
    | some p =>
      rw [hf] at h
      have hp := List.mem_of_find?_eq_some hf
      have hpi := List.find?_some hf
      obtain ⟨_, hj, _⟩ := hin p hp
      refine ⟨p, hp, by simpa using hpi, hj, ?_⟩
      simpa [hj] using h
  have some_ : ∀ p ∈ M, (sf p.1).isSome = true := fun p hp => by
    rw [hsf]
    simp only
    cases hf : M.find? fun q => decide (q.1 = p.1) with
    | none =>
      have := List.find?_eq_none.1 hf p hp
      simp at this
    | some q =>
      obtain ⟨_, hj, _⟩ := hin q (List.mem_of_find?_eq_some hf)
      simp [hj]
  have hS : SitF l rs sf := by
    refine ⟨fun i hi s hs => ?_, fun i j hi' hj' s t hij hs ht => ?_⟩
    · obtain ⟨p, hp, rfl, hj, e⟩ := get i s hs
      obtain ⟨_, _, ho⟩ := hin p hp
      exact ⟨_, List.getElem_mem hj, e, one_unblocked ho, ho⟩
    · refine ⟨fun e => ?_, fun h => ?_⟩
      · obtain ⟨p, hp, hpi, hpj, ep⟩ := get i s hs
        obtain ⟨q, hq, hqi, hqj, eq⟩ := get j t ht
        have e2 := spot_idx hpj hqj (by rw [ep, eq, e])
        have e3 := nodup_snd h2 hp hq e2
        rw [e3] at hpi
        omega
      · have := hi rs[i] (List.getElem_mem hi')
        rw [this] at h
        exact absurd h.1 (by decide)
  have a1 := ((most_all l rs hn).2 _ (sitF_ok hS)).1
  rw [sitF_seated hS, ← filter_len] at a1
  have a2 := nodup_sub_len (a := M.map Prod.fst) (b := (List.range rs.length).filter fun i => (sf i).isSome) h1 (fun i hi => by
    obtain ⟨p, hp, rfl⟩ := List.mem_map.1 hi
    obtain ⟨h3, _⟩ := hin p hp
    exact List.mem_filter.2 ⟨List.mem_range.2 h3, some_ p hp⟩)
  rw [List.length_map] at a2
  omega
/-- A seating is a matching. -/
theorem seat_match (l : List MRow) (rs : List MSit) (hn : rs.length < 100) : ∃ k : Nat, (k : Int) = seatedM l rs ∧ HasM (natE (edT (spotsL l) rs rs.length)) k := by
  obtain ⟨σ, hσ⟩ := sits_as l rs
  have h := seats_ok l rs hσ
  have h1 := hσ.cost
  rw [cost_split (gP_open l rs)] at h1
  have h2 := seated_le (n := rs.length) (m := gM l) σ
  have h3 := kept_le (P := gP l rs) (n := rs.length) (m := gM l) σ
  have hc : (((List.range rs.length).filter (tkT l rs)).length : Int) = seatedN rs.length (gM l) σ := by
    rw [filter_len]
    refine sm_congr fun i hi => ?_
    have := hσ.tk i hi
    by_cases e : tkT l rs i = true
    · rw [if_pos e, if_pos (this.2 e)]
    · rw [if_neg e, if_neg (fun h => e (this.1 h))]
  have idx : ∀ i, i < rs.length → tkT l rs i = true → ∃ j, ∃ hj : j < (spotsL l).length, (seatPl l rs)[i]? = some (spotsL l)[j].seat ∧ ∃ hi : i < rs.length, oneE rs[i].who (spotsL l)[j] = 0 := fun i hi ht => by
    have hl : i < (seatPl l rs).length := by rw [h.len]; exact hi
    obtain ⟨s, m1, m2, _, _, m5⟩ := h.some i hl hi ht
    obtain ⟨j, hj, rfl⟩ := List.getElem_of_mem m1
    exact ⟨j, hj, by rw [List.getElem?_eq_getElem hl, m2], hi, m5⟩
  obtain ⟨J, hJe⟩ : ∃ J : Nat → Nat, ∀ i (hi : i < rs.length) (ht : tkT l rs i = true), J i = (idx i hi ht).choose :=
    ⟨fun i => if h : i < rs.length ∧ tkT l rs i = true then (idx i h.1 h.2).choose else 0, fun i hi ht => dif_pos ⟨hi, ht⟩⟩
  have hJ : ∀ i, i < rs.length → tkT l rs i = true → ∃ hj : J i < (spotsL l).length, (seatPl l rs)[i]? = some (spotsL l)[J i].seat ∧ ∃ hi : i < rs.length, oneE rs[i].who (spotsL l)[J i] = 0 := fun i hi ht => by
    rw [hJe i hi ht]
    exact (idx i hi ht).choose_spec
  have hmem : ∀ i ∈ (List.range rs.length).filter (tkT l rs), i < rs.length ∧ tkT l rs i = true := fun i hi => by
    obtain ⟨a, b⟩ := List.mem_filter.1 hi
    exact ⟨List.mem_range.1 a, b⟩
  have hnd : ((List.range rs.length).filter (tkT l rs)).Nodup := List.nodup_range.filter _
  refine ⟨((List.range rs.length).filter (tkT l rs)).length, by unfold seatedM; omega, ((List.range rs.length).filter (tkT l rs)).map fun i => (i, J i), by rw [List.length_map], fun p hp => ?_, ?_, ?_⟩
  · obtain ⟨i, hi, rfl⟩ := List.mem_map.1 hp
    obtain ⟨a, b⟩ := hmem i hi
    obtain ⟨hj, _, hi', ho⟩ := hJ i a b
    exact mem_natT.2 ⟨hi', hj, ho⟩
  · rw [List.map_map]
    have : (Prod.fst ∘ fun i => (i, J i)) = id := rfl
    rw [this, List.map_id]
    exact hnd
  · rw [List.map_map]
    refine nodup_map_on _ hnd fun i hi j hj e => ?_
    obtain ⟨a, b⟩ := hmem i hi
    obtain ⟨a', b'⟩ := hmem j hj
    obtain ⟨_, e1, _⟩ := hJ i a b
    obtain ⟨_, e2, _⟩ := hJ j a' b'
    have e' : J i = J j := e
    simp only [e'] at e1
    have l1 : i < (seatPl l rs).length := by rw [h.len]; exact a
    have l2 : j < (seatPl l rs).length := by rw [h.len]; exact a'
    have : (seatPl l rs)[i] = (seatPl l rs)[j] := by
      have := e1.trans e2.symm
      rw [List.getElem?_eq_getElem l1, List.getElem?_eq_getElem l2] at this
      injection this
    exact h.dist i j l1 l2 b b' this
/-- The law. -/
theorem top_nu (hn : rs.length < 100) (hi : ∀ x ∈ rs, x.who.inf = false) {nu : Nat} (h : NuIs (natE (edT (spotsL l) rs rs.length)) nu) : (nu : Int) = seatedM l rs := by
  obtain ⟨k, e, hk⟩ := seat_match l rs hn
  have h1 := match_le hn hi h.1
  have h2 := hk.le h.2
  omega
end
end Go.Proofs.YtegpanfcjfcaeaaDoor
/- TopMatching's example: two seats, three riders. -/
namespace Go.Proofs.YtegpanfcjfcaeaaDoor
open Go.RowKit Go.Lib
def txR : List MSit := [⟨rxWho, ⟨0, 0⟩⟩, ⟨rxWho, ⟨0, 0⟩⟩, ⟨rxWho, ⟨0, 0⟩⟩]
theorem tx_sits : ∀ x ∈ txR, x.seat.fits := by
  intro x hx
  simp only [txR, List.mem_cons, List.mem_nil_iff, or_false] at hx
  rcases hx with rfl | rfl | rfl <;> (unfold MSeat.fits; exact ⟨by decide, by decide⟩)
theorem tx_best : (bestG rxRows (remR txR) []).1 = 2 := by decide +kernel
theorem tx_seated : seatedM rxRows txR = 2 := by
  have h := tiny_best rxRows txR (by decide +kernel) (by decide)
  have := congrArg Prod.fst h
  rw [tx_best] at this
  exact this.symm
/-- Size, where the graph is good. -/
theorem size_ok (w : World) (n m : Int) (A : Option Addr) (k c : Nat) (l : List Eg) (hr : Rd w w.heap.size 2 A k (edgv l)) (hg : GoodG n m l) (N : Int) (hN : ∀ nu, NuIs (natE l) nu → (nu : Int) = N) :
    Calls Tryd.prog 19 #[.int .i64 n, .int .i64 m, .slice A k c] w fun e w' => e = .returned (.tuple #[.int .i64 N, .int .i64 0]) ∧ Below w.heap.size w w' := by
  refine (size_any w n m A k c l hr).mono ?_
  rintro e w' ⟨⟨_, nu, h1, _, rfl⟩ | ⟨h, _⟩, hb⟩
  · rw [hN nu h1]; exact ⟨rfl, hb⟩
  · exact absurd hg h
theorem tx_nu : ∀ nu, NuIs (natE [((0 : Int), (0 : Int))]) nu → (nu : Int) = 1 := by
  intro nu h
  have h1 : HasM (natE [((0 : Int), (0 : Int))]) 1 := ⟨[(0, 0)], rfl, by simp [natE], by simp, by simp⟩
  have h2 : HasC (natE [((0 : Int), (0 : Int))]) 1 := ⟨[0], [], by simp, by simp [natE]⟩
  have := h.1.le h2
  have := h1.le h.2
  omega
set_option maxHeartbeats 8000000 in
set_option maxRecDepth 20000 in
theorem tlives_any (w : World) (mm : Int) (hLib : LibAt w mm) : Calls Tryd.prog 14 #[] w fun e w' => e = .returned (.bool true) ∧ Below w.heap.size w w' := by
  obtain ⟨Wa, hWa⟩ : ∃ W, W = w.alloc (.cells #[.int .i64 1, .int .i64 1, .int .i64 0, .bool false, .string ⟨#[65, 66]⟩] 80) := ⟨_, rfl⟩
  obtain ⟨Wb, hWb⟩ : ∃ W, W = Wa.alloc (.cells #[.int .i64 1, .bool false, .bool false, .int .i64 0, .int .u8 0] 35) := ⟨_, rfl⟩
  obtain ⟨Wd, hWd⟩ : ∃ W, W = Wb.alloc (.cells #[.int .i64 1, .bool false, .bool false, .int .i64 0, .int .u8 0, .int .i64 1, .bool false, .bool false, .int .i64 0, .int .u8 0, .int .i64 1, .bool false, .bool false, .int .i64 0, .int .u8 0] 35) := ⟨_, rfl⟩
  obtain ⟨s0, hs0⟩ : ∃ s, w.heap.size = s := ⟨_, rfl⟩
  have sa : Wa.heap.size = s0 + 1 := by rw [hWa, ← hs0]; simp
  have sb : Wb.heap.size = s0 + 2 := by rw [hWb]; simp [sa]
  have sd : Wd.heap.size = s0 + 3 := by rw [hWd]; simp [sb]
  have hba : Below w.heap.size w Wa := by rw [hWa]; exact (Below.refl _ _).alloc (Nat.le_refl _) _
  have hbb : Below w.heap.size w Wb := by rw [hWb]; exact hba.alloc (by omega) _
  have hbd : Below w.heap.size w Wd := by rw [hWd]; exact hbb.alloc (by omega) _
  have ra : Wa.heap[s0]? = some (.cells #[.int .i64 1, .int .i64 1, .int .i64 0, .bool false, .string ⟨#[65, 66]⟩] 80 (0, 0)) := by rw [hWa, ← hs0]; exact heap_alloc_new w _
  have rd : Wd.heap[s0 + 2]? = some (.cells #[.int .i64 1, .bool false, .bool false, .int .i64 0, .int .u8 0, .int .i64 1, .bool false, .bool false, .int .i64 0, .int .u8 0, .int .i64 1, .bool false, .bool false, .int .i64 0, .int .u8 0] 35 (0, 0)) := by rw [hWd, ← sb]; exact heap_alloc_new Wb _
  have rad : Wd.heap[s0]? = some (.cells #[.int .i64 1, .int .i64 1, .int .i64 0, .bool false, .string ⟨#[65, 66]⟩] 80 (0, 0)) := by
    rw [hWd]; refine (Below.heap_alloc Wb _ _ (by omega)).trans ?_
    rw [hWb]; exact (Below.heap_alloc Wa _ _ (by omega)).trans ra
  have p1 : Rd Wd Wd.heap.size 5 (some ⟨s0, 0, none⟩) 1 (catv rowC rxRows) := rd_blockN 1 5 rad rfl
  have p2 : Rd Wd Wd.heap.size 5 (some ⟨s0 + 2, 0, none⟩) 3 (catv sitC txR) := rd_blockN 3 5 rd rfl
  have HST := Lib.hid (most_ok Wd mm _ 1 1 rxRows p1 rx_fits (hLib.below hbd) _ 3 3 txR p2 tx_sits rx_err (by decide))
  rw [tx_seated] at HST
  obtain ⟨K, hK⟩ : ∃ K, keptM rxRows txR = K := ⟨_, rfl⟩
  rw [hK] at HST
  have HBD := Lib.hid hbd
  clear ra rd rad p1 p2 hba hbb hbd hLib sa sb sd hK
  go_enter Tryd.func14, Tryd.ntmps14
  go_wp2_with fail
  rw [← hWa, ← hWb, ← hWd]
  refine HST.out.mono ?_
  rintro e w2 ⟨rfl, hb2⟩
  have HB2 := Lib.hid (HBD.out.trans (hb2.mono HBD.out.size))
  obtain ⟨W3, hW3⟩ : ∃ W, W = w2.alloc (.cells #[.int .i64 0, .int .i64 0] 40) := ⟨_, rfl⟩
  have hb3 : Below w2.heap.size w2 W3 := by rw [hW3]; exact (Below.refl _ _).alloc (Nat.le_refl _) _
  have r3 : W3.heap[w2.heap.size]? = some (.cells #[.int .i64 0, .int .i64 0] 40 (0, 0)) := by rw [hW3]; exact heap_alloc_new w2 _
  have p3 : Rd W3 W3.heap.size 2 (some ⟨w2.heap.size, 0, none⟩) 1 (edgv [(0, 0)]) := rd_blockN 1 2 r3 rfl
  have HSM := Lib.hid (size_ok W3 1 1 _ 1 1 [(0, 0)] p3 ⟨by decide, by decide, by decide, by decide⟩ 1 tx_nu)
  have HB3 := Lib.hid (HB2.out.trans (hb3.mono HB2.out.size))
  clear hb2 hb3 r3 p3 HST
  go_wp2_with fail
  rw [← hW3]
  clear hW3
  refine HSM.out.mono ?_
  rintro e w4 ⟨rfl, hb4⟩
  have HB4 := Lib.hid (HB3.out.trans (hb4.mono HB3.out.size))
  clear hb4 HSM
  go_wp2
  go_ret
  exact ⟨rfl, HB4.out⟩
end Go.Proofs.YtegpanfcjfcaeaaDoor
