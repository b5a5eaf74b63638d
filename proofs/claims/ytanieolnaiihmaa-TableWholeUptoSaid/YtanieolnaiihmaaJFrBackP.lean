/- Frames: what is sealed is scanned again; spoilt frames. Plain. -/
import Derived.Test.YtanieolnaiihmaaJFrScan
namespace Go.Proofs.Ytanieolnaiihmaa

theorem frame_first (pre rest p : List UInt8) (hp : p.length ≤ 65536) : firstR (pre ++ (frameB p ++ rest)) (pre.length : Int) = (p, ((pre.length + 8 + p.length : Nat) : Int), 0) := by
  have hl := frameB_len p
  rw [first_in (by simp only [List.length_append]; omega)]
  have hd : (pre ++ (frameB p ++ rest)).drop pre.length = frameB p ++ rest := by rw [List.drop_left]
  have hb : be4 (frameB p ++ rest) = p.length := by
    unfold frameB
    rw [List.append_assoc, List.append_assoc]
    exact be4_fourB _ (by omega) _
  have e1 : frameB p ++ rest = (fourB p.length ++ fourB (sumB (fourB p.length ++ p))) ++ (p ++ rest) := by unfold frameB; simp
  have e2 : (frameB p ++ rest).drop 8 = p ++ rest := by
    rw [e1]; exact List.drop_left (l₁ := fourB p.length ++ fourB (sumB (fourB p.length ++ p)))
  have e3 : ((frameB p ++ rest).drop 8).take p.length = p := by rw [e2, List.take_left]
  have e4 : (frameB p ++ rest).take 4 = fourB p.length := by
    rw [e1, List.append_assoc]; exact List.take_left (l₁ := fourB p.length)
  have e5 : be4 ((frameB p ++ rest).drop 4) = sumB (fourB p.length ++ p) := by
    have : (frameB p ++ rest).drop 4 = fourB (sumB (fourB p.length ++ p)) ++ (p ++ rest) := by
      rw [e1, List.append_assoc]; exact List.drop_left (l₁ := fourB p.length)
    rw [this]; exact be4_fourB _ (sumB_lt _) _
  have h := at_ok (l := pre ++ (frameB p ++ rest)) (k := pre.length) hd (by rw [hb, List.length_append]; omega) (by rw [hb, e3, e4, e5])
  rw [h, hb, e3]
theorem tail_first (pre p : List UInt8) (k : Nat) (hp : p.length ≤ 65536) (hk : k < (frameB p).length) : firstR (pre ++ (frameB p).take k) (pre.length : Int) = ([], 0, 1) := by
  have hl := frameB_len p
  have hkl : ((frameB p).take k).length = k := by rw [List.length_take]; omega
  by_cases h8 : k < 8
  · exact first_out (.inr (by simp only [List.length_append, hkl]; omega))
  · rw [first_in (by simp only [List.length_append, hkl]; omega)]
    have hd : (pre ++ (frameB p).take k).drop pre.length = (frameB p).take k := by rw [List.drop_left]
    have hb : be4 ((frameB p).take k) = p.length := by
      unfold frameB
      rw [List.append_assoc, List.take_append, fourB_len, List.take_of_length_le (l := fourB p.length) (by rw [fourB_len]; omega)]
      exact be4_fourB _ (by omega) _
    exact at_big hd (.inr (by rw [hb, hkl]; omega))
theorem scan_from (tail : List UInt8) (htail : ∀ pre : List UInt8, firstR (pre ++ tail) (pre.length : Int) = ([], 0, 1)) (l : List ByteArray) : ∀ (pre : List UInt8) (f : Nat), fits l → l.length < f → scanFrom (pre ++ (sealB l ++ tail)) f pre.length = (l.map fun s => s.data.toList, pre.length + (sealB l).length) := by
  induction l with
  | nil =>
    intro pre f _ hf
    have h1 : sealB [] = [] := rfl
    rw [h1, List.nil_append, scan_no (by rw [htail])]
    simp
  | cons s l ih =>
    intro pre f hfit hf
    obtain ⟨f, rfl⟩ : ∃ f', f = f' + 1 := ⟨f - 1, by omega⟩
    have hs : s.data.toList.length = s.size := by simp
    have hss := hfit s List.mem_cons_self
    have h1 : sealB (s :: l) = frameB s.data.toList ++ sealB l := by simp [sealB]
    have hfl := frameB_len s.data.toList
    rw [h1, List.append_assoc, scan_ok (frame_first pre (sealB l ++ tail) s.data.toList (by omega))]
    have h2 := ih (pre ++ frameB s.data.toList) f (fun x hx => hfit x (List.mem_cons_of_mem _ hx)) (by simp only [List.length_cons] at hf; omega)
    have hpl : (pre ++ frameB s.data.toList).length = pre.length + 8 + s.data.toList.length := by rw [List.length_append, hfl]; omega
    rw [hpl, List.append_assoc] at h2
    rw [h2, List.length_append, hfl, List.map_cons]
    congr 1
    omega
theorem nil_first (pre : List UInt8) : firstR (pre ++ []) (pre.length : Int) = ([], 0, 1) := first_out (.inr (by simp; omega))
theorem seal_len (l : List ByteArray) : l.length ≤ (sealB l).length := by
  induction l with
  | nil => simp
  | cons s l ih =>
    have h1 : sealB (s :: l) = frameB s.data.toList ++ sealB l := by simp [sealB]
    rw [h1, List.length_append, frameB_len, List.length_cons]; omega
theorem scan_seal (l : List ByteArray) (h : fits l) : scanR (sealB l) = (l.map fun s => s.data.toList, (sealB l).length) := by
  have := scan_from [] nil_first l [] ((sealB l).length + 1) h (by have := seal_len l; omega)
  simpa [scanR] using this
theorem scan_seal_cut (l : List ByteArray) (p : List UInt8) (k : Nat) (h : fits l) (hp : p.length ≤ 65536) (hk : k < (frameB p).length) : scanR (sealB l ++ (frameB p).take k) = (l.map fun s => s.data.toList, (sealB l).length) := by
  have := scan_from ((frameB p).take k) (fun pre => tail_first pre p k hp hk) l [] ((sealB l ++ (frameB p).take k).length + 1) h (by have := seal_len l; rw [List.length_append]; omega)
  simpa [scanR] using this
theorem strsOf_map (l : List ByteArray) : strsOf (l.map fun s => s.data.toList) = l := by
  unfold strsOf
  rw [List.map_map]
  have : toStr ∘ (fun s : ByteArray => s.data.toList) = id := by
    funext s
    show (⟨s.data.toList.toArray⟩ : ByteArray) = s
    simp
  rw [this, List.map_id]
theorem fits_append {a b : List ByteArray} : fits (a ++ b) ↔ fits a ∧ fits b := by
  unfold fits
  constructor
  · intro h; exact ⟨fun s hs => h s (List.mem_append_left _ hs), fun s hs => h s (List.mem_append_right _ hs)⟩
  · intro h s hs
    rcases List.mem_append.1 hs with h1 | h1
    · exact h.1 s h1
    · exact h.2 s h1
theorem sealB_append (a b : List ByteArray) : sealB (a ++ b) = sealB a ++ sealB b := by simp [sealB]
end Go.Proofs.Ytanieolnaiihmaa
