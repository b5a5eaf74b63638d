/- The law TableBytes: for every input the Go function returns true, and its arguments read as before. Conditions: none beyond the row's own. -/
import Derived.Test.YtanieolnaiihmaaRows
import Derived.Test.YtanieolnaiihmaaJTbBytes
import Derived.Test.YtanieolnaiihmaaJBulkStr
import Derived.Test.YtanieolnaiihmaaJCap
import Derived.Test.YtanieolnaiihmaaJTbBound
namespace Go.Proofs.Ytanieolnaiihmaa.tableBytesRow
open Go.RowKit Go.ChangeShapes Go.WideShapes Go.ChangeAt

theorem own : ownKnob Try.prog.godebug = none := by kernel_rfl
theorem laidOut : laidOutB Try.prog = true := by kernel_rfl
set_option maxRecDepth 100000 in
theorem lifted (os : Os) (started : os.Started) (H : Type) (enc : TypeId × Value → H) (F : Stop.Interp) :
    ReturnsInHanded {} Try.checked os 5 .any ((Rows.OpenSpec.upto Rows.tableBytesSpec).pre6 enc Try.prog Try.f5 Rows.tableBytesUptoRow.domain false) (((Rows.OpenSpec.upto Rows.tableBytesSpec).at F).post enc Try.prog Try.f5 false true false false) := by
  refine returnsInHanded_of_cond_sized (C := Try.checked) (s := Rows.OpenSpec.upto Rows.tableBytesSpec) (k := Rows.uptoSmall) rfl own started (by kernel_rfl) Try.func5
    (OpenSpec.witness (enc := enc) (C := Try.checked) (s := Rows.OpenSpec.upto Rows.tableBytesSpec) (k := Rows.uptoSmall) rfl false ⟨#[], #[.slice none 0 0, .string ByteArray.empty], []⟩ 8 (by kernel_rfl) (by kernel_rfl) (by kernel_rfl)
      (x := ([.nil, .lit (.string [])], [], [])) (by kernel_rfl) rfl (by kernel_rfl)) ?_
  intro W base args ds gs before hval0 hW _ hk hsz0 _
  have hsz : (DataW.weightsEach Try.prog (Try.f5.params.toList ++ Rows.tableBytesSpec.plain.varTypes Try.prog) (ds ++ gs)).all (· ≤ reachBytes) = true := hsz0
  have hval : ∀ (j : Nat) t v, Try.f5.params[j]? = some t → args[j]? = some v → Value.okWide Try.prog W .any base t v := hval0
  have hW' := hW
  obtain ⟨p, q, hA0, hV, rfl, _, _⟩ := hW
  have hA : DataW.TrodAll enc Try.prog W 0 (fun _ => true) true Try.f5.params.toList args.toList ds p := hA0
  rw [Try.params5] at hA hval hsz
  obtain ⟨v0, vs0, d0, ds0, p0, q0, hargs, rfl, rfl, h0, r0⟩ := trodAll_cons hA
  obtain ⟨v1, vs1, d1, ds1, p1, q1, rfl, rfl, rfl, h1, r1⟩ := trodAll_cons r0
  obtain ⟨rfl, rfl, rfl⟩ := trodAll_nil r1
  obtain rfl : args = #[v0, v1] := by cases args; simp_all
  obtain ⟨rfl, rfl⟩ := trodVars_none hV
  clear hA0 hval0 hsz0
  have z0 := sz_at hsz 0 rfl rfl
  have bk0 := bulk_at hk (d := d0) (by simp)
  obtain ⟨A0, n0, c0, l0, rfl, hr0, hn0, hl0, hb0⟩ := open_entsB (hval 0 31 v0 rfl rfl) h0 z0
  clear z0
  have z1 := sz_at hsz 1 rfl rfl
  have bk1 := bulk_at hk (d := d1) (by simp)
  obtain ⟨s1, rfl, hs1, hb1⟩ := open_strB Try.underlying9 (hval 1 9 v1 rfl rfl) h1 z1
  clear z1
  have hlen0 : l0.length ≤ 1048576 := by have := rd_entlen hr0; omega
  have hl0x : ∀ x ∈ l0, (-9223372036854775808 ≤ x.seq ∧ x.seq ≤ 9223372036854775807) ∧ x.key.size ≤ 1048576 ∧ x.val.size ≤ 1048576 := fun x hx => ⟨(hl0 x hx).1, by have := (hl0 x hx).2; omega, by have := (hl0 x hx).2; omega⟩
  refine (tbytes_any W A0 n0 c0 l0 s1 (Nat.le_refl 1048576) (okE_upto hl0x hlen0) hr0 (cap_open Try.underlying31 h0) (by omega)).mono fun e W' ⟨he, bel⟩ => ?_
  subst he
  exact ⟨_, rfl, _, _, _, [], _, [], hW', trodAll_mk1 (shut_bool Try.underlying4 _), (trodAll_cons_mk (Below.trod laidOut (by kernel_rfl) (of_decide_eq_true (by kernel_rfl)) h0 bel (lt_of_trod h0)) (trodAll_cons_mk (Below.trod laidOut (by kernel_rfl) (of_decide_eq_true (by kernel_rfl)) h1 bel (lt_of_trod h1)) trodAll_mk0)), rfl, bel.frame _, fun h => by cases h⟩

theorem holds : Rows.TableBytesUptoSaid :=
  OpenClaim.holds_of_cond 5 Try.f5 rfl rfl rfl rfl rfl rfl rfl ⟨rfl, rfl, rfl, rfl, rfl⟩ rfl rfl rfl rfl rfl (by kernel_rfl) Try.func5 (by kernel_rfl)
    (of_decide_eq_true (by kernel_rfl)) (by unfold Func.isWrapper; first | (rw [if_pos (by decide +kernel)]; kernel_rfl) | (rw [if_neg (by decide +kernel)]; exact ⟨rfl, rfl⟩))
    (fun os started H enc _ F => lifted os started H enc F)
end Go.Proofs.Ytanieolnaiihmaa.tableBytesRow
