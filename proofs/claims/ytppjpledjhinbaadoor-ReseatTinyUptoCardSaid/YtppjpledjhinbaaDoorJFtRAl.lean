/- Seating: the reference's All, walked. -/
import Derived.Test.YtppjpledjhinbaaDoorJFtRNx
namespace Go.Proofs.YtppjpledjhinbaaDoor
open Go.RowKit Go.Lib
theorem sitE_step (L : List MSpot) (B : List MSit) (x : MSit) (t : List MSit) : sitE L B (x :: t) = if mayE L B x ≠ 0 then mayE L B x else sitE L (B ++ [x]) t := rfl
set_option maxHeartbeats 8000000 in
set_option maxRecDepth 20000 in
theorem rall_any (w : World) (A : Option Addr) (n c : Nat) (l : List MRow) (S : Option Addr) (k d : Nat) (q : List MSit) (hr : Rd w w.heap.size 5 A n (catv rowC l)) (hf : ∀ r ∈ l, r.fits) (hs : Rd w w.heap.size 5 S k (catv sitC q)) (h40 : q.length ≤ 1099511627776) :
    Calls Tryd.prog 23 #[.slice A n c, .slice S k d] w fun e w' => e = .returned (.int .i64 (allE l q)) ∧ Below w.heap.size w w' := by
  obtain rfl := rd_catlen sitC_len (by decide) hs
  obtain ⟨E, hE⟩ : ∃ E, allE l q = E := ⟨_, rfl⟩
  rw [hE]
  have HE := Lib.hid hE
  have HCK := Lib.hid (rcheck_any w A n c l hr hf)
  have HNX := Lib.hid (fun (V : World) (i : Nat) (hi : i < q.length) (hV : Below w.heap.size w V) => rnext_any V A n c l S q.length d q i hi hi ((hr.below hV).mono hV.size) hf ((hs.below hV).mono hV.size) h40)
  clear hr hf hs hE
  go_enter Tryd.func23, Tryd.ntmps23
  go_wp2_with fail
  refine HCK.out.mono ?_
  rintro e w1 ⟨rfl, hb1⟩
  have HB1 := Lib.hid hb1
  clear hb1 HCK
  unfold errC
  cases hck : checkL l with
  | false =>
    have HE2 : Hid (E = 13) := Lib.hid (by rw [← HE.out]; unfold allE; rw [hck]; rfl)
    simp only [Bool.false_eq_true, if_false]
    go_wp2
    go_ret
    exact ⟨ret_int HE2.out.symm, HB1.out⟩
  | true =>
    have HE2 : Hid (E = sitE (spotsL l) [] q) := Lib.hid (by rw [← HE.out]; unfold allE; rw [hck]; rfl)
    simp only [if_true]
    go_wp2
    go_loopw [12] (fun iv wx => ∃ j : Nat, j ≤ q.length ∧ iv = .int .i64 (j : Int) ∧ Hid (E = sitE (spotsL l) (q.take j) (q.drop j)) ∧ Hid (Below w.heap.size w wx)) (fun iv _ => q.length - (intOf iv).toNat)
    case atStart => exact ⟨0, Nat.zero_le _, rfl, Lib.hid (by simpa using HE2.out), HB1⟩
    case round =>
      obtain ⟨j, hj, rfl, hG, hB⟩ := hrel
      by_cases hlt : j < q.length
      · have hG2 := hG.out
        rw [List.drop_eq_getElem_cons hlt, sitE_step, ← List.take_succ_eq_append_getElem hlt] at hG2
        have hN := HNX.out wr j hlt hB.out
        obtain ⟨M, hM⟩ : ∃ M, mayE (spotsL l) (q.take j) q[j] = M := ⟨_, rfl⟩
        rw [hM] at hN hG2
        have HN := Lib.hid hN
        have HGG := Lib.hid hG2
        clear hG hG2 hN hM
        go_wp2_with fail
        refine HN.out.mono ?_
        rintro e w2 ⟨rfl, hb2⟩
        have HB2 := Lib.hid (bel_on hB.out hb2)
        clear hb2 HN
        by_cases hM0 : M = 0
        · subst hM0
          have HG3 : Hid (E = sitE (spotsL l) (q.take (j + 1)) (q.drop (j + 1))) := Lib.hid (by rw [HGG.out]; simp)
          clear HGG
          go_wp2
          go_roundw
          case rel => exact ⟨j + 1, by omega, by go_num, HG3, HB2⟩
          case measure => simp [intOf]; omega
        · have HF : Hid (E = M) := Lib.hid (by rw [HGG.out]; simp [hM0])
          clear HGG
          go_wp2
          go_ret
          exact ⟨ret_int HF.out.symm, HB2.out⟩
      · have hlz : ¬ (j : Int) < (q.length : Int) := by omega
        have hG2 := hG.out
        rw [List.drop_eq_nil_of_le (by omega)] at hG2
        have HG2 := Lib.hid hG2
        clear hG hG2
        go_wp2
        go_ret
        exact ⟨ret_int HG2.out.symm, hB.out⟩
end Go.Proofs.YtppjpledjhinbaaDoor
