/- The law TableAsMem: for every input the Go function returns true, and its arguments read as before. Conditions: none beyond the row's own. -/
import Derived.Test.YtanieolnaiihmaaRows
import Derived.Test.YtanieolnaiihmaaJTbAsMem
import Derived.Test.YtanieolnaiihmaaJBulkStr
import Derived.Test.YtanieolnaiihmaaJOpenNums
import Derived.Test.YtanieolnaiihmaaJBulkEnt
import Derived.Test.YtanieolnaiihmaaJTbBound
namespace Go.Proofs.Ytanieolnaiihmaa.tableAsMemRow
open Go.RowKit Go.ChangeShapes Go.WideShapes Go.ChangeAt

theorem own : ownKnob Try.prog.godebug = none := by kernel_rfl
theorem laidOut : laidOutB Try.prog = true := by kernel_rfl
theorem wt_siz (l : List Ent) : wtP l = M6.sizE l + 2 * l.length := by
  induction l with
  | nil => rfl
  | cons x l ih =>
    have e : wtP (x :: l) = x.key.size + x.val.size + 2 + wtP l := by simp [wtP]
    rw [e, ih, M6.sizE_cons, List.length_cons]
    omega
set_option maxRecDepth 100000 in
theorem lifted (os : Os) (started : os.Started) (H : Type) (enc : TypeId × Value → H) (F : Stop.Interp) :
    ReturnsInHanded {} Try.checked os 7 .any ((Rows.OpenSpec.upto Rows.tableAsMemSpec).pre6 enc Try.prog Try.f7 Rows.tableAsMemUptoRow.domain false) (((Rows.OpenSpec.upto Rows.tableAsMemSpec).at F).post enc Try.prog Try.f7 false true false false) := by
  refine returnsInHanded_of_cond_sized (C := Try.checked) (s := Rows.OpenSpec.upto Rows.tableAsMemSpec) (k := Rows.uptoSmall) rfl own started (by kernel_rfl) Try.func7
    (OpenSpec.witness (enc := enc) (C := Try.checked) (s := Rows.OpenSpec.upto Rows.tableAsMemSpec) (k := Rows.uptoSmall) rfl false ⟨#[], #[.slice none 0 0, .slice none 0 0, .slice none 0 0], []⟩ 8 (by kernel_rfl) (by kernel_rfl) (by kernel_rfl)
      (x := ([.nil, .nil, .nil], [], [])) (by kernel_rfl) rfl (by kernel_rfl)) ?_
  intro W base args ds gs before hval0 hW _ hk hsz0 _
  have hsz : (DataW.weightsEach Try.prog (Try.f7.params.toList ++ Rows.tableAsMemSpec.plain.varTypes Try.prog) (ds ++ gs)).all (· ≤ reachBytes) = true := hsz0
  have hval : ∀ (j : Nat) t v, Try.f7.params[j]? = some t → args[j]? = some v → Value.okWide Try.prog W .any base t v := hval0
  have hW' := hW
  obtain ⟨p, q, hA0, hV, rfl, _, _⟩ := hW
  have hA : DataW.TrodAll enc Try.prog W 0 (fun _ => true) true Try.f7.params.toList args.toList ds p := hA0
  rw [Try.params7] at hA hval hsz
  obtain ⟨v0, vs0, d0, ds0, p0, q0, hargs, rfl, rfl, h0, r0⟩ := trodAll_cons hA
  obtain ⟨v1, vs1, d1, ds1, p1, q1, rfl, rfl, rfl, h1, r1⟩ := trodAll_cons r0
  obtain ⟨v2, vs2, d2, ds2, p2, q2, rfl, rfl, rfl, h2, r2⟩ := trodAll_cons r1
  obtain ⟨rfl, rfl, rfl⟩ := trodAll_nil r2
  obtain rfl : args = #[v0, v1, v2] := by cases args; simp_all
  obtain ⟨rfl, rfl⟩ := trodVars_none hV
  clear hA0 hval0 hsz0
  have z0 := sz_at hsz 0 rfl rfl
  have bk0 := bulk_at hk (d := d0) (by simp)
  obtain ⟨A0, n0, c0, l0, rfl, hr0, hx0, hb0⟩ := open_i64sB Try.underlying66 Try.underlying3 (by kernel_rfl) (hval 0 66 v0 rfl rfl) h0
  clear z0
  have z1 := sz_at hsz 1 rfl rfl
  have bk1 := bulk_at hk (d := d1) (by simp)
  obtain ⟨A1, n1, c1, l1, rfl, hr1, hn1, hl1, hb1⟩ := open_entsB (hval 1 31 v1 rfl rfl) h1 z1
  clear z1
  have z2 := sz_at hsz 2 rfl rfl
  have bk2 := bulk_at hk (d := d2) (by simp)
  obtain ⟨A2, n2, c2, ss2, rfl, hr2, hn2, hs2, hb2⟩ := open_strsB Try.underlying22 Try.underlying9 (by kernel_rfl) (by kernel_rfl) (hval 2 22 v2 rfl rfl) h2 z2
  clear z2
  have hlen1 : l1.length ≤ 1048576 := by have := rd_entlen hr1; omega
  have hl1x : ∀ x ∈ l1, (-9223372036854775808 ≤ x.seq ∧ x.seq ≤ 9223372036854775807) ∧ x.key.size ≤ 1048576 ∧ x.val.size ≤ 1048576 := fun x hx => ⟨(hl1 x hx).1, by have := (hl1 x hx).2; omega, by have := (hl1 x hx).2; omega⟩
  have hw1 : wtP l1 ≤ 2097152 := by unfold wtP; omega
  have hw2 := wt_siz l1
  refine (M6.tasmem_any W A0 n0 c0 l0 hr0 (by have := hr0.len; rw [i64v_length] at this; omega) A1 n1 c1 l1 hr1 (by omega) hl1x (by omega) (fun m h1 h2 h3 => ⟨okE_upto h1 (by omega), by have h4 := bldT_bound h1 (by omega) (by have := wt_siz m; omega); omega⟩) A2 n2 c2 ss2 hr2 (by omega) (fun k hk' => by have := hs2 k hk'; unfold maxLen; omega)).mono fun e W' ⟨he, bel⟩ => ?_
  subst he
  exact ⟨_, rfl, _, _, _, [], _, [], hW', trodAll_mk1 (shut_bool Try.underlying4 _), (trodAll_cons_mk (Below.trod laidOut (by kernel_rfl) (of_decide_eq_true (by kernel_rfl)) h0 bel (lt_of_trod h0)) (trodAll_cons_mk (Below.trod laidOut (by kernel_rfl) (of_decide_eq_true (by kernel_rfl)) h1 bel (lt_of_trod h1)) (trodAll_cons_mk (Below.trod laidOut (by kernel_rfl) (of_decide_eq_true (by kernel_rfl)) h2 bel (lt_of_trod h2)) trodAll_mk0))), rfl, bel.frame _, fun h => by cases h⟩

theorem holds : Rows.TableAsMemUptoSaid :=
  OpenClaim.holds_of_cond 7 Try.f7 rfl rfl rfl rfl rfl rfl rfl ⟨rfl, rfl, rfl, rfl, rfl⟩ rfl rfl rfl rfl rfl (by kernel_rfl) Try.func7 (by kernel_rfl)
    (of_decide_eq_true (by kernel_rfl)) (by unfold Func.isWrapper; first | (rw [if_pos (by decide +kernel)]; kernel_rfl) | (rw [if_neg (by decide +kernel)]; exact ⟨rfl, rfl⟩))
    (fun os started H enc _ F => lifted os started H enc F)
end Go.Proofs.Ytanieolnaiihmaa.tableAsMemRow
