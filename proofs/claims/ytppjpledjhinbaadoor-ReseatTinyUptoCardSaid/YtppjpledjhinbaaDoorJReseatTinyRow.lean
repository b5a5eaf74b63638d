/- The law ReseatTiny: for every input the Go function returns true, and its arguments read as before. Conditions: none beyond the row's own. -/
import Derived.Test.YtppjpledjhinbaaDoorJFtDoor
import Derived.Test.YtppjpledjhinbaaDoorJRsTinyL
import Derived.Test.YtppjpledjhinbaaDoorJVMap
import Derived.Test.YtppjpledjhinbaaDoorJGtOpen
namespace Go.Proofs.YtppjpledjhinbaaDoor.reseatTinyRow
open Go.RowKit Go.ChangeShapes Go.WideShapes Go.ChangeAt

set_option maxRecDepth 100000 in
theorem lifted (os : Os) (started : os.Started) (H : Type) (enc : TypeId × Value → H) (F : Stop.Interp) :
    ReturnsInHanded {} Tryd.checked os 5 .any ((Rows.OpenSpec.upto Rows.reseatTinySpec).preRow enc Tryd.prog Tryd.f5 Rows.reseatTinyUptoRow.domain false laidL) (((Rows.OpenSpec.upto Rows.reseatTinySpec).at F).post enc Tryd.prog Tryd.f5 false true false false) := by
  refine returnsInHanded_of_row (C := Tryd.checked) (s := Rows.OpenSpec.upto Rows.reseatTinySpec) own started (by kernel_rfl) Tryd.func5
    (wit (enc := enc) (s := Rows.OpenSpec.upto Rows.reseatTinySpec) #[.slice none 0 0, .slice none 0 0] 8 (World.shaped_of_ZipB (by kernel_rfl) (by kernel_rfl)) (by kernel_rfl)
      (x := ([.nil, .nil], [], [])) (by kernel_rfl) (by kernel_rfl) (fun _ h => by cases h; rfl) (by kernel_rfl)) ?_
  intro W base args ds gs before hval0 hW _ hk0 hsz0 hld hsh _
  have hk : Rows.uptoSmall H (ds ++ gs) = true := hk0 _ rfl
  obtain ⟨m, hm⟩ := lib_of hsh hld
  have hsz : (DataW.weightsEach Tryd.prog (Tryd.f5.params.toList ++ Rows.reseatTinySpec.plain.varTypes Tryd.prog) (ds ++ gs)).all (· ≤ reachBytes) = true := hsz0
  have hval : ∀ (j : Nat) t v, Tryd.f5.params[j]? = some t → args[j]? = some v → Value.okWide Tryd.prog W .any base t v := hval0
  have hW' := hW
  obtain ⟨p, q, hA0, hV, rfl, _, _⟩ := hW
  have hA : DataW.TrodAll enc Tryd.prog W 0 (fun _ => true) true Tryd.f5.params.toList args.toList ds p := hA0
  rw [Tryd.params5] at hA hval hsz
  obtain ⟨v0, vs0, d0, ds0, p0, q0, hargs, rfl, rfl, h0, r0⟩ := trodAll_cons hA
  obtain ⟨v1, vs1, d1, ds1, p1, q1, rfl, rfl, rfl, h1, r1⟩ := trodAll_cons r0
  obtain ⟨rfl, rfl, rfl⟩ := trodAll_nil r1
  obtain rfl : args = #[v0, v1] := by cases args; simp_all
  obtain ⟨rfl, rfl⟩ := trodVars_none hV
  clear hA0 hval0 hsz0
  have z0 := sz_at hsz 0 rfl rfl
  have bk0 := bulk_at hk (d := d0) (by simp)
  obtain ⟨A0, n0, c0, l0, rfl, hr0, hn0, hc0, hl0⟩ := open_mrows (hval 0 22 v0 rfl rfl) h0 bk0
  clear z0
  have z1 := sz_at hsz 1 rfl rfl
  have bk1 := bulk_at hk (d := d1) (by simp)
  obtain ⟨A1, n1, c1, l1, rfl, hr1, hn1, hc1, hl1⟩ := open_riders (hval 1 23 v1 rfl rfl) h1 bk1
  clear z1
  refine (rtiny_any W m A0 n0 c0 l0 hr0 hl0 hm A1 n1 c1 l1 hr1 hl1).mono fun e W' ⟨he, bel⟩ => ?_
  subst he
  exact ⟨_, rfl, _, _, _, [], _, [], hW', trodAll_mk1 (shut_bool Tryd.underlying4 _), (trodAll_cons_mk (Below.trod laidOut (by kernel_rfl) (of_decide_eq_true (by kernel_rfl)) h0 bel (lt_of_trod h0)) (trodAll_cons_mk (Below.trod laidOut (by kernel_rfl) (of_decide_eq_true (by kernel_rfl)) h1 bel (lt_of_trod h1)) trodAll_mk0)), rfl, bel.frame _, fun h => by cases h⟩

theorem row_holds : Rows.ReseatTinyUptoSaid :=
  OpenClaim.holds_of_cond 5 Tryd.f5 rfl rfl rfl rfl rfl rfl rfl ⟨rfl, rfl, rfl, rfl, rfl⟩ rfl rfl rfl rfl rfl (by kernel_rfl) Tryd.func5 (by kernel_rfl)
    (of_decide_eq_true (by kernel_rfl)) (by unfold Func.isWrapper; first | (rw [if_pos (by decide +kernel)]; kernel_rfl) | (rw [if_neg (by decide +kernel)]; exact ⟨rfl, rfl⟩))
    (fun os started H enc _ F => lifted os started H enc F)
theorem holds : Rows.ReseatTinyUptoCardSaid :=
  Claim7.holds_tied_plain_at .later [] [.data, .pinned, .pinned] true _ false row_holds (fun _ h => by cases h) (by kernel_rfl) (fun _ h => by cases h) reseatTinyUpto_row_tie rfl ⟨rfl, rfl⟩ (by kernel_rfl) rfl
    (fun f fn hf hfn => by
      obtain rfl : f = 5 := Option.some.inj ((show Tryd.prog.funcNamed "tarmac/tarmaclaw17.ReseatTiny" = some 5 by kernel_rfl).symm.trans hf) |>.symm
      obtain rfl : fn = Tryd.f5 := (Option.some.inj (Tryd.func5.symm.trans hfn)).symm
      exact ⟨by kernel_rfl, fun j t ht => by
        rw [Tryd.params5] at ht
        have hm : t ∈ [22, 23] := by simpa using Array.mem_of_getElem? ht
        have hall : ([22, 23].all fun u => !Tryd.prog.wantsStandIn u) = true := by kernel_rfl
        exact (show Tryd.prog.wantsStandIn t = false by simpa using List.all_eq_true.1 hall t hm)⟩)
    (by kernel_rfl)
end Go.Proofs.YtppjpledjhinbaaDoor.reseatTinyRow
