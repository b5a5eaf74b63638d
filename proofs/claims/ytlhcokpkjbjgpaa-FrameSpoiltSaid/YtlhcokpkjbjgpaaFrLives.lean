/- Frames: 'lives', walked. -/
import Derived.Test.YtlhcokpkjbjgpaaFrScan
namespace Go.Proofs.Ytlhcokpkjbjgpaa
open Go.RowKit

def S0 : List UInt8 := [0, 0, 0, 0, 33, 68, 223, 28]
theorem seal_empty : sealR [(⟨#[]⟩ : ByteArray)] = (S0, 0) := by decide +kernel
theorem scan_empty : scanR (S0 ++ [120]) = ([[]], 8) := by decide +kernel
theorem sum_nine : sumB ([49, 50, 51, 52] ++ [53, 54, 55, 56, 57]) = 3421780262 := by decide +kernel
theorem scan_lit (w : World) (l : List UInt8) (h : l.length ≤ 17179869184) :
    Calls Try.prog 15 #[.string ⟨l.toArray⟩] w fun e w' => ∃ v, e = .returned (.tuple #[v, .int .i64 ((scanR l).2 : Int)]) ∧ w'.ownsRow w.heap.size 9 1 v (scanR l).1.length (strv (strsOf (scanR l).1)) ∧ Below w.heap.size w w' :=
  scan_any w ⟨l.toArray⟩ (by show l.toArray.size ≤ _; simpa using h)
set_option maxHeartbeats 1000000 in
theorem flives_any (w : World) : Calls Try.prog 9 #[] w fun e w' => e = .returned (.bool true) ∧ Below w.heap.size w w' := by
  have hx := append_lit2 S0 ⟨#[120]⟩
  have hs0 : S0.length = 8 := rfl
  go_enter Try.func9, Try.ntmps9
  go_wp2_with fail
  have h1 := fseal_any (w.alloc (.cells #[.string ⟨#[]⟩] 9)) (some ⟨w.heap.size, 0, none⟩) 1 1 [⟨#[]⟩] (by simpa [strv] using Rd.new (w := w) (size := 1) (n := 1) #[.string ⟨#[]⟩] 9 rfl) (by decide +kernel) (by omega) (by intro s hs; rw [List.mem_singleton.1 hs]; decide)
  rw [seal_empty] at h1
  refine h1.mono ?_
  rintro e w1 ⟨rfl, hb1⟩
  have hbA : Below w.heap.size w (w.alloc (.cells #[Value.string ⟨#[]⟩] 9)) := (Below.refl _ _).alloc (Nat.le_refl _) _
  have hb1' := bel hbA hb1
  clear h1 hb1 hbA
  go_wp2_with fail
  have h2 := scan_lit w1 (S0 ++ [120]) (by decide)
  rw [scan_empty] at h2
  refine h2.mono ?_
  rintro e w2 ⟨v, rfl, hown2, hb2⟩
  obtain ⟨A2, c2, hv2⟩ := own_shape hown2
  subst hv2
  have hb2' := bel hb1' hb2
  clear h2 hb2 hown2
  go_wp2_with fail
  refine (fsum_two _ ⟨#[49, 50, 51, 52]⟩ ⟨#[53, 54, 55, 56, 57]⟩ (by decide) (by decide)).mono ?_
  rintro e w3 ⟨rfl, rfl⟩
  have hsum : (⟨#[49, 50, 51, 52]⟩ : ByteArray).data.toList ++ (⟨#[53, 54, 55, 56, 57]⟩ : ByteArray).data.toList = [49, 50, 51, 52] ++ [53, 54, 55, 56, 57] := rfl
  rw [hsum, sum_nine]
  have hb3 := bel hb2' ((Below.refl w2.heap.size w2).alloc (Nat.le_refl _) (.cells #[Value.string ⟨#[49, 50, 51, 52]⟩, Value.string ⟨#[53, 54, 55, 56, 57]⟩] 9))
  have hq : ((⟨S0.toArray⟩ : ByteArray) == ⟨#[0, 0, 0, 0, 33, 68, 223, 28]⟩) = true := by decide
  go_wp2
  go_ret
  exact ⟨rfl, hb3⟩
end Go.Proofs.Ytlhcokpkjbjgpaa
