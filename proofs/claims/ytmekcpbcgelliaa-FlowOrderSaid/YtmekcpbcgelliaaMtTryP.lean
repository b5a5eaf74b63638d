/- Matchings: what the reference's search computes, in plain words. -/
import Derived.Test.YtmekcpbcgelliaaMtReachP
namespace Go.Proofs.Ytmekcpbcgelliaa
structure TSt where
  wi : List Int
  seen : List Bool
def sn (l : List Bool) (b : Nat) : Bool := l.getD b false
theorem sn_set {l : List Bool} {i : Nat} (h : i < l.length) (v : Bool) (j : Nat) : sn (l.set i v) j = if j = i then v else sn l j := by
  unfold sn
  rw [List.getD_eq_getElem?_getD, List.getD_eq_getElem?_getD, List.getElem?_set]
  by_cases e : j = i
  · subst e
    rw [if_pos rfl, if_pos rfl, if_pos h]
    rfl
  · rw [if_neg (fun e' => e e'.symm), if_neg e]
def tryL (step : Nat → TSt → Option (Bool × TSt)) (a : Nat) : List Nat → TSt → Option (Bool × TSt)
  | [], s => some (false, s)
  | b :: l, s =>
    if sn s.seen b = true then tryL step a l s
    else if gi s.wi b < 0 then some (true, ⟨s.wi.set b a, s.seen.set b true⟩)
    else
      match step (gi s.wi b).toNat { s with seen := s.seen.set b true } with
      | none => none
      | some (true, s') => some (true, { s' with wi := s'.wi.set b a })
      | some (false, s') => tryL step a l s'
def tryF (near : Nat → List Nat) : Nat → Nat → TSt → Option (Bool × TSt)
  | 0, _, _ => none
  | f + 1, a, s => tryL (tryF near f) a (near a) s
def unseen (l : List Bool) (m : Nat) : Nat := ((List.range m).filter (fun x => !sn l x)).length
theorem unseen_set {l : List Bool} {m b : Nat} (h : l.length = m) (hb : b < m) (h0 : sn l b = false) : unseen l m = unseen (l.set b true) m + 1 := by
  have hv := fun x => sn_set (l := l) (i := b) (by omega) true x
  unfold unseen
  refine count_one _ _ b (by simp [hv]) (by simp [h0]) (fun x hx => by simp [hv, hx]) _ List.nodup_range (by simpa using hb)
def had (wi : List Int) (m : Nat) : Nat := ((List.range m).filter (fun x => decide (0 ≤ gi wi x))).length
/-- No A has two B's among those that aren't seen. -/
def Inj (wi : List Int) (seen : Nat → Bool) : Prop := ∀ b c, seen b = false → seen c = false → 0 ≤ gi wi b → gi wi b = gi wi c → b = c
section
variable {E : Es} {near : Nat → List Nat} {m : Nat}
/-- What 'try' answers, in vain. -/
structure TryNo (near : Nat → List Nat) (m a : Nat) (s s' : TSt) : Prop where
  wi : s'.wi = s.wi
  ls : s'.seen.length = m
  mono : ∀ b, sn s.seen b = true → sn s'.seen b = true
  here : ∀ b ∈ near a, sn s'.seen b = true
  new : ∀ b, sn s'.seen b = true → sn s.seen b = true ∨ (0 ≤ gi s.wi b ∧ ∀ c ∈ near (gi s.wi b).toNat, sn s'.seen c = true)
/-- .. with success. -/
structure TryYes (E : Es) (m a : Nat) (s s' : TSt) : Prop where
  lw : s'.wi.length = m
  ls : s'.seen.length = m
  keep : ∀ b, sn s.seen b = true → gi s'.wi b = gi s.wi b
  inj : Inj s'.wi (sn s.seen)
  val : ∀ b, sn s.seen b = false → 0 ≤ gi s'.wi b → gi s'.wi b = (a : Int) ∨ ∃ c, sn s.seen c = false ∧ 0 ≤ gi s.wi c ∧ gi s'.wi b = gi s.wi c
  edge : ∀ b, sn s.seen b = false → 0 ≤ gi s'.wi b → ((gi s'.wi b).toNat, b) ∈ E
  one : ∃ c, c < m ∧ gi s.wi c < 0 ∧ 0 ≤ gi s'.wi c ∧ ∀ x, x ≠ c → (0 ≤ gi s'.wi x ↔ 0 ≤ gi s.wi x)
theorem tryF_out (hb : ∀ a b, b ∈ near a ↔ (a, b) ∈ E) (hm : ∀ p ∈ E, p.2 < m) :
    ∀ (f a : Nat) (s : TSt), s.wi.length = m → s.seen.length = m → Inj s.wi (sn s.seen) → (∀ b, sn s.seen b = false → 0 ≤ gi s.wi b → ((gi s.wi b).toNat, b) ∈ E) →
      (∀ b, sn s.seen b = false → gi s.wi b ≠ (a : Int)) → unseen s.seen m < f →
      ∃ r s', tryF near f a s = some (r, s') ∧ ((r = false ∧ TryNo near m a s s') ∨ (r = true ∧ TryYes E m a s s')) := by
  intro f
  induction f with
  | zero => intro a s _ _ _ _ _ h; omega
  | succ f ih =>
    intro a s0 lw ls0 hinj hedge hna hf
    have key : ∀ (l : List Nat) (sd : List Bool), (∀ b ∈ l, b ∈ near a) → sd.length = m → (∀ b, sn s0.seen b = true → sn sd b = true) →
        (∀ b ∈ near a, b ∈ l ∨ sn sd b = true) → (∀ b, sn sd b = true → sn s0.seen b = true ∨ (0 ≤ gi s0.wi b ∧ ∀ c ∈ near (gi s0.wi b).toNat, sn sd c = true)) → unseen sd m < f + 1 →
        ∃ r s', tryL (tryF near f) a l ⟨s0.wi, sd⟩ = some (r, s') ∧ ((r = false ∧ TryNo near m a s0 s') ∨ (r = true ∧ TryYes E m a s0 s')) := by
      intro l
      induction l with
      | nil => intro sd _ hls hmono hhere hnew _; exact ⟨false, _, rfl, .inl ⟨rfl, rfl, hls, hmono, fun b hb => by rcases hhere b hb with h | h; cases h; exact h, hnew⟩⟩
      | cons b l ihl =>
        intro sd hl hls hmono hhere hnew hun
        have hbn := hl b (by simp)
        have hbE := (hb a b).1 hbn
        have hbm : b < m := hm _ hbE
        have hl' : ∀ c ∈ l, c ∈ near a := fun c hc => hl c (by simp [hc])
        unfold tryL
        by_cases hs : sn sd b = true
        · rw [if_pos hs]
          refine ihl sd hl' hls hmono (fun c hc => ?_) hnew hun
          rcases hhere c hc with h | h
          · rcases List.mem_cons.1 h with rfl | h
            · exact .inr hs
            · exact .inl h
          · exact .inr h
        · rw [if_neg hs]
          have hs' : sn sd b = false := by simpa using hs
          have hs0 : sn s0.seen b = false := by
            cases h : sn s0.seen b with
            | true => rw [hmono b h] at hs'; cases hs'
            | false => rfl
          have sv := fun x => sn_set (l := sd) (i := b) (by omega) true x
          have lb : b < s0.wi.length := by omega
          by_cases hw : gi s0.wi b < 0
          · rw [if_pos hw]
            have wv := fun x => gi_set (l := s0.wi) (i := b) lb (a : Int) x
            refine ⟨true, _, rfl, .inr ⟨rfl, by simp [lw], by simp [hls], fun c hc => ?_, fun c d hc hd h0 e => ?_, fun c hc h0 => ?_, fun c hc h0 => ?_, b, hbm, hw, ?_, fun x hx => ?_⟩⟩
            · show gi (s0.wi.set b a) c = _
              rw [wv, if_neg (by rintro rfl; rw [hs0] at hc; cases hc)]
            · have e' : gi (s0.wi.set b a) c = gi (s0.wi.set b a) d := e
              have h0' : 0 ≤ gi (s0.wi.set b a) c := h0
              rw [wv, wv] at e'
              rw [wv] at h0'
              by_cases e1 : c = b
              · by_cases e2 : d = b
                · rw [e1, e2]
                · rw [if_pos e1, if_neg e2] at e'
                  exact absurd e'.symm (hna d hd)
              · by_cases e2 : d = b
                · rw [if_neg e1, if_pos e2] at e'
                  exact absurd e' (hna c hc)
                · rw [if_neg e1, if_neg e2] at e'
                  rw [if_neg e1] at h0'
                  exact hinj c d hc hd h0' e'
            · have h0' : 0 ≤ gi (s0.wi.set b a) c := h0
              show gi (s0.wi.set b a) c = _ ∨ ∃ d, _ ∧ _ ∧ gi (s0.wi.set b a) c = _
              rw [wv] at h0' ⊢
              by_cases e1 : c = b
              · rw [if_pos e1]; exact .inl rfl
              · rw [if_neg e1] at h0' ⊢
                exact .inr ⟨c, hc, h0', rfl⟩
            · have h0' : 0 ≤ gi (s0.wi.set b a) c := h0
              show ((gi (s0.wi.set b a) c).toNat, c) ∈ E
              rw [wv] at h0' ⊢
              by_cases e1 : c = b
              · rw [if_pos e1, e1, Int.toNat_natCast]; exact hbE
              · rw [if_neg e1] at h0' ⊢
                exact hedge c hc h0'
            · show 0 ≤ gi (s0.wi.set b a) b
              rw [wv, if_pos rfl]; omega
            · show 0 ≤ gi (s0.wi.set b a) x ↔ _
              rw [wv, if_neg hx]
          · rw [if_neg hw]
            obtain ⟨q, hq⟩ : ∃ q : Nat, gi s0.wi b = (q : Int) := ⟨(gi s0.wi b).toNat, by omega⟩
            have hqt : (gi s0.wi b).toNat = q := by omega
            have hun2 := unseen_set hls hbm hs'
            have back : ∀ c, sn (sd.set b true) c = false → c ≠ b ∧ sn sd c = false := fun c hc => by
              rw [sv] at hc
              by_cases e : c = b
              · rw [if_pos e] at hc; cases hc
              · rw [if_neg e] at hc; exact ⟨e, hc⟩
            have back0 : ∀ c, sn sd c = false → sn s0.seen c = false := fun c hc => by
              cases h : sn s0.seen c with
              | true => rw [hmono c h] at hc; cases hc
              | false => rfl
            obtain ⟨r, s', he, hout⟩ := ih (gi s0.wi b).toNat ⟨s0.wi, sd.set b true⟩ lw (by simp [hls])
              (fun c d hc hd h0 e => hinj c d (back0 c (back c hc).2) (back0 d (back d hd).2) h0 e)
              (fun c hc h0 => hedge c (back0 c (back c hc).2) h0)
              (fun c hc e => (back c hc).1 (hinj c b (back0 c (back c hc).2) hs0 (by show 0 ≤ gi s0.wi c; rw [show gi s0.wi c = _ from e]; omega) (by rw [show gi s0.wi c = _ from e]; omega)))
              (by show unseen (sd.set b true) m < f; omega)
            simp only
            rw [he]
            rcases hout with ⟨rfl, hno⟩ | ⟨rfl, hyes⟩
            · simp only
              have ew : s'.wi = s0.wi := hno.wi
              have es : s' = ⟨s0.wi, s'.seen⟩ := by rw [← ew]
              rw [es]
              have hmono2 : ∀ c, sn sd c = true → sn s'.seen c = true := fun c hc => hno.mono c (by
                show sn (sd.set b true) c = true
                rw [sv]; split
                · rfl
                · exact hc)
              have hbs : sn s'.seen b = true := hno.mono b (by show sn (sd.set b true) b = true; rw [sv, if_pos rfl])
              refine ihl s'.seen hl' hno.ls (fun c hc => hmono2 c (hmono c hc)) (fun c hc => ?_) (fun c hc => ?_) ?_
              · rcases hhere c hc with h | h
                · rcases List.mem_cons.1 h with rfl | h
                  · exact .inr hbs
                  · exact .inl h
                · exact .inr (hmono2 c h)
              · rcases hno.new c hc with h | h
                · have h' : sn (sd.set b true) c = true := h
                  rw [sv] at h'
                  by_cases e : c = b
                  · subst e
                    exact .inr ⟨by omega, hno.here⟩
                  · rw [if_neg e] at h'
                    rcases hnew c h' with h | ⟨h1, h2⟩
                    · exact .inl h
                    · exact .inr ⟨h1, fun d hd => hmono2 d (h2 d hd)⟩
                · exact .inr h
              · refine Nat.lt_of_le_of_lt (filter_len_le _ _ _ fun x _ hx => ?_) hun
                cases h : sn sd x with
                | true => rw [hmono2 x h] at hx; exact hx
                | false => rfl
            · simp only
              have kq : ∀ c, sn (sd.set b true) c = true → gi s'.wi c = gi s0.wi c := hyes.keep
              have lb' : b < s'.wi.length := by rw [hyes.lw]; exact hbm
              have wv := fun x => gi_set (l := s'.wi) (i := b) lb' (a : Int) x
              have hbt : sn (sd.set b true) b = true := by rw [sv, if_pos rfl]
              -- what the others hold
              have oth : ∀ c, sn s0.seen c = false → c ≠ b → 0 ≤ gi s'.wi c → (sn sd c = true ∧ gi s'.wi c = gi s0.wi c) ∨ (sn sd c = false ∧ (gi s'.wi c = gi s0.wi b ∨ ∃ d, d ≠ b ∧ sn sd d = false ∧ 0 ≤ gi s0.wi d ∧ gi s'.wi c = gi s0.wi d)) := fun c hc hcb h0 => by
                cases h : sn sd c with
                | true => exact .inl ⟨rfl, kq c (by rw [sv, if_neg hcb]; exact h)⟩
                | false =>
                  refine .inr ⟨rfl, ?_⟩
                  rcases hyes.val c (by show sn (sd.set b true) c = false; rw [sv, if_neg hcb]; exact h) h0 with h1 | ⟨d, h1, h2, h3⟩
                  · exact .inl (by rw [h1]; omega)
                  · exact .inr ⟨d, (back d h1).1, (back d h1).2, h2, h3⟩
              have nota : ∀ c, sn s0.seen c = false → c ≠ b → 0 ≤ gi s'.wi c → gi s'.wi c ≠ (a : Int) := fun c hc hcb h0 e => by
                rcases oth c hc hcb h0 with ⟨_, h1⟩ | ⟨_, h1 | ⟨d, _, h2, _, h3⟩⟩
                · exact hna c hc (by rw [← h1]; exact e)
                · exact hna b hs0 (by rw [← h1]; exact e)
                · exact hna d (back0 d h2) (by rw [← h3]; exact e)
              refine ⟨true, _, rfl, .inr ⟨rfl, by simp [hyes.lw], hyes.ls, fun c hc => ?_, fun c d hc hd h0 e => ?_, fun c hc h0 => ?_, fun c hc h0 => ?_, ?_⟩⟩
              · show gi (s'.wi.set b a) c = _
                rw [wv, if_neg (by rintro rfl; rw [hs0] at hc; cases hc)]
                refine kq c ?_
                rw [sv]; split
                · rfl
                · exact hmono c hc
              · have e' : gi (s'.wi.set b a) c = gi (s'.wi.set b a) d := e
                have h0' : 0 ≤ gi (s'.wi.set b a) c := h0
                rw [wv, wv] at e'
                rw [wv] at h0'
                by_cases e1 : c = b
                · by_cases e2 : d = b
                  · rw [e1, e2]
                  · rw [if_pos e1, if_neg e2] at e'
                    exact absurd e'.symm (nota d hd e2 (by rw [← e']; omega))
                · by_cases e2 : d = b
                  · rw [if_neg e1, if_pos e2] at e'
                    exact absurd e' (nota c hc e1 (by rw [e']; omega))
                  · rw [if_neg e1, if_neg e2] at e'
                    rw [if_neg e1] at h0'
                    have cross : ∀ c d, sn s0.seen c = false → sn s0.seen d = false → c ≠ b → d ≠ b → 0 ≤ gi s'.wi c → gi s'.wi c = gi s'.wi d → sn sd c = true → sn sd d = false → c = d := by
                      intro c d hc hd e1 e2 h0 e3 hsc hsd
                      have g1 := kq c (by rw [sv, if_neg e1]; exact hsc)
                      rcases oth d hd e2 (by omega) with ⟨h, _⟩ | ⟨_, h1 | ⟨x, hx1, hx2, hx3, hx4⟩⟩
                      · rw [hsd] at h; cases h
                      · exact absurd (hinj c b hc hs0 (by omega) (by omega)) e1
                      · have := hinj c x hc (back0 x hx2) (by omega) (by omega)
                        subst this
                        rw [hsc] at hx2; cases hx2
                    cases hsc : sn sd c with
                    | true =>
                      cases hsd : sn sd d with
                      | true =>
                        have g1 := kq c (by rw [sv, if_neg e1]; exact hsc)
                        have g2 := kq d (by rw [sv, if_neg e2]; exact hsd)
                        exact hinj c d hc hd (by omega) (by omega)
                      | false => exact cross c d hc hd e1 e2 h0' e' hsc hsd
                    | false =>
                      cases hsd : sn sd d with
                      | true => exact (cross d c hd hc e2 e1 (by omega) e'.symm hsd hsc).symm
                      | false => exact hyes.inj c d (by show sn (sd.set b true) c = false; rw [sv, if_neg e1]; exact hsc) (by show sn (sd.set b true) d = false; rw [sv, if_neg e2]; exact hsd) h0' e'
              · have h0' : 0 ≤ gi (s'.wi.set b a) c := h0
                show gi (s'.wi.set b a) c = _ ∨ ∃ d, _ ∧ _ ∧ gi (s'.wi.set b a) c = _
                rw [wv] at h0' ⊢
                by_cases e1 : c = b
                · rw [if_pos e1]; exact .inl rfl
                · rw [if_neg e1] at h0' ⊢
                  rcases oth c hc e1 h0' with ⟨_, h1⟩ | ⟨_, h1 | ⟨d, _, h2, h3, h4⟩⟩
                  · exact .inr ⟨c, hc, by omega, h1⟩
                  · exact .inr ⟨b, hs0, by omega, h1⟩
                  · exact .inr ⟨d, back0 d h2, h3, h4⟩
              · have h0' : 0 ≤ gi (s'.wi.set b a) c := h0
                show ((gi (s'.wi.set b a) c).toNat, c) ∈ E
                rw [wv] at h0' ⊢
                by_cases e1 : c = b
                · rw [if_pos e1, e1, Int.toNat_natCast]; exact hbE
                · rw [if_neg e1] at h0' ⊢
                  cases hsc : sn sd c with
                  | true =>
                    have g1 := kq c (by rw [sv, if_neg e1]; exact hsc)
                    rw [g1] at h0' ⊢
                    exact hedge c hc h0'
                  | false => exact hyes.edge c (by show sn (sd.set b true) c = false; rw [sv, if_neg e1]; exact hsc) h0'
              · obtain ⟨c, h1, h2, h3, h4⟩ := hyes.one
                have h2' : gi s0.wi c < 0 := h2
                have hcb : c ≠ b := by rintro rfl; omega
                refine ⟨c, h1, h2', ?_, fun x hx => ?_⟩
                · show 0 ≤ gi (s'.wi.set b a) c
                  rw [wv, if_neg hcb]; exact h3
                · show 0 ≤ gi (s'.wi.set b a) x ↔ _
                  rw [wv]
                  by_cases e : x = b
                  · rw [if_pos e, e]; omega
                  · rw [if_neg e]; exact h4 x hx
    exact key (near a) s0.seen (fun _ h => h) ls0 (fun _ h => h) (fun b h => .inl h) (fun b h => .inl h) hf
/-! ### One after the other -/
def sizeF (near : Nat → List Nat) (m : Nat) : List Nat → List Int → Nat → Option (List Int × Nat)
  | [], wi, k => some (wi, k)
  | a :: l, wi, k =>
    match tryF near (m + 1) a ⟨wi, List.replicate m false⟩ with
    | none => none
    | some (true, s) => sizeF near m l s.wi (k + 1)
    | some (false, s) => sizeF near m l s.wi k
def below (E : Es) (a : Nat) : Es := E.filter (fun p => decide (p.1 < a))
theorem mem_below {E : Es} {a : Nat} {p : Nat × Nat} : p ∈ below E a ↔ p ∈ E ∧ p.1 < a := by
  unfold below
  rw [List.mem_filter, decide_eq_true_eq]
structure SzSt (E : Es) (m a : Nat) (wi : List Int) (k : Nat) : Prop where
  lw : wi.length = m
  inj : Inj wi (fun _ => false)
  edge : ∀ b, 0 ≤ gi wi b → ((gi wi b).toNat, b) ∈ below E a
  cnt : had wi m = k
  cov : HasC (below E a) k
theorem sn_rep (m b : Nat) : sn (List.replicate m false) b = false := by
  unfold sn
  rw [List.getD_eq_getElem?_getD, List.getElem?_replicate]
  split <;> rfl
theorem unseen_le (l : List Bool) (m : Nat) : unseen l m ≤ m := by
  have := List.length_filter_le (fun x => !sn l x) (List.range m)
  rw [List.length_range] at this
  exact this
theorem size_step (hb : ∀ a b, b ∈ near a ↔ (a, b) ∈ E) (hm : ∀ p ∈ E, p.2 < m) {a : Nat} {wi : List Int} {k : Nat} (h : SzSt E m a wi k) :
    ∃ r s, tryF near (m + 1) a ⟨wi, List.replicate m false⟩ = some (r, s) ∧ SzSt E m (a + 1) s.wi (if r then k + 1 else k) := by
  have hsn := sn_rep m
  have hEq : ∀ b, 0 ≤ gi wi b → ((gi wi b).toNat, b) ∈ E ∧ (gi wi b).toNat < a := fun b h0 => mem_below.1 (h.edge b h0)
  obtain ⟨r, s, e, ho⟩ := tryF_out hb hm (m + 1) a ⟨wi, List.replicate m false⟩ h.lw (by simp) (fun b c _ _ h0 e => h.inj b c rfl rfl h0 e)
    (fun b _ h0 => (hEq b h0).1) (fun b _ e => by
      have e' : gi wi b = (a : Int) := e
      have := (hEq b (by omega)).2
      omega) (by have := unseen_le (List.replicate m false) m; show unseen (List.replicate m false) m < m + 1; omega)
  refine ⟨r, s, e, ?_⟩
  rcases ho with ⟨rfl, hno⟩ | ⟨rfl, hy⟩
  · have ew : s.wi = wi := hno.wi
    rw [ew]
    refine ⟨h.lw, h.inj, fun b h0 => ?_, h.cnt, ?_⟩
    · have := hEq b h0
      exact mem_below.2 ⟨this.1, by show (gi wi b).toNat < a + 1; omega⟩
    · obtain ⟨A, B, hl, hc⟩ := h.cov
      -- the visited ones
      have hsee : ∀ b, sn s.seen b = true → 0 ≤ gi wi b ∧ ∀ c ∈ near (gi wi b).toNat, sn s.seen c = true := fun b hb => by
        rcases hno.new b hb with h | h
        · have h' : sn (List.replicate m false) b = true := h
          rw [hsn] at h'; cases h'
        · exact h
      let RA : Nat → Bool := fun x => decide (x = a) || (List.range m).any (fun b => sn s.seen b && decide (gi wi b = (x : Int)))
      have hRA : ∀ x, RA x = true ↔ x = a ∨ ∃ b, b < m ∧ sn s.seen b = true ∧ gi wi b = (x : Int) := fun x => by
        simp only [RA, Bool.or_eq_true, decide_eq_true_eq, List.any_eq_true, List.mem_range, Bool.and_eq_true]
      have hRn : ∀ x, RA x = true → ∀ b ∈ near x, sn s.seen b = true := fun x hx b hbx => by
        rcases (hRA x).1 hx with rfl | ⟨c, _, hc1, hc2⟩
        · exact hno.here b hbx
        · have := (hsee c hc1).2
          rw [hc2, Int.toNat_natCast] at this
          exact this b hbx
      let S := (List.range m).filter (fun b => sn s.seen b && !decide (b ∈ B))
      have hS : ∀ b, b ∈ S ↔ b < m ∧ sn s.seen b = true ∧ b ∉ B := fun b => by
        simp [S, List.mem_filter]
      refine ⟨A.filter (fun x => !RA x), B ++ S, ?_, fun p hp => ?_⟩
      · have hA := len_parts RA A
        have hSl : S.length ≤ (A.filter RA).length := by
          rw [← List.length_map (f := fun b => (gi wi b).toNat)]
          refine nodup_sub_len (nodup_map_on _ (List.nodup_range.sublist List.filter_sublist) fun x hx y hy e => ?_) fun q hq => ?_
          · have h1 := (hsee x ((hS x).1 hx).2.1).1
            have h2 := (hsee y ((hS y).1 hy).2.1).1
            exact h.inj x y rfl rfl h1 (by omega)
          · obtain ⟨b, hbS, rfl⟩ := List.mem_map.1 hq
            obtain ⟨h1, h2, h3⟩ := (hS b).1 hbS
            have h4 := (hsee b h2).1
            refine List.mem_filter.2 ⟨?_, (hRA _).2 (.inr ⟨b, h1, h2, by omega⟩)⟩
            rcases hc _ (h.edge b h4) with h5 | h5
            · exact h5
            · exact absurd h5 h3
        simp only [List.length_append]
        show _ ≤ k
        omega
      · obtain ⟨h1, h2⟩ := mem_below.1 hp
        cases hr : RA p.1 with
        | true =>
          have h3 := hRn p.1 hr p.2 ((hb _ _).2 h1)
          refine .inr ?_
          rw [List.mem_append]
          by_cases h4 : p.2 ∈ B
          · exact .inl h4
          · exact .inr ((hS _).2 ⟨hm p h1, h3, h4⟩)
        | false =>
          have hne : p.1 ≠ a := fun h => by rw [(hRA p.1).2 (.inl h)] at hr; cases hr
          rcases hc p (mem_below.2 ⟨h1, by omega⟩) with h3 | h3
          · exact .inl (List.mem_filter.2 ⟨h3, by simp [hr]⟩)
          · exact .inr (by simp [h3])
  · refine ⟨hy.lw, fun b c _ _ h0 e => hy.inj b c (hsn b) (hsn c) h0 e, fun b h0 => ?_, ?_, ?_⟩
    · refine mem_below.2 ⟨hy.edge b (hsn b) h0, ?_⟩
      show (gi s.wi b).toNat < a + 1
      rcases hy.val b (hsn b) h0 with h1 | ⟨c, _, h2, h3⟩
      · omega
      · have h2' : 0 ≤ gi wi c := h2
        have h3' : gi s.wi b = gi wi c := h3
        have := (hEq c h2').2
        omega
    · obtain ⟨c, h1, h2, h3, h4⟩ := hy.one
      have h2' : gi wi c < 0 := h2
      show had s.wi m = k + 1
      rw [← h.cnt]
      unfold had
      refine count_one _ _ c (by simp; omega) (by simpa using h3) (fun x hx => ?_) _ List.nodup_range (by simpa using h1)
      have := h4 x hx
      by_cases e : 0 ≤ gi s.wi x
      · have e2 : 0 ≤ gi wi x := this.1 e
        simp [e, e2]
      · have e2 : ¬ 0 ≤ gi wi x := fun h' => e (this.2 h')
        simp only [e, e2]
    · obtain ⟨A, B, hl, hc⟩ := h.cov
      refine ⟨a :: A, B, by simp only [List.length_cons]; show _ ≤ k + 1; omega, fun p hp => ?_⟩
      obtain ⟨h1, h2⟩ := mem_below.1 hp
      by_cases e : p.1 = a
      · exact .inl (by simp [e])
      · rcases hc p (mem_below.2 ⟨h1, by omega⟩) with h3 | h3
        · exact .inl (by simp [h3])
        · exact .inr h3
theorem size_from (hb : ∀ a b, b ∈ near a ↔ (a, b) ∈ E) (hm : ∀ p ∈ E, p.2 < m) : ∀ (j a : Nat) (wi : List Int) (k : Nat), SzSt E m a wi k →
    ∃ wi' k', sizeF near m (List.range' a j) wi k = some (wi', k') ∧ SzSt E m (a + j) wi' k' := by
  intro j
  induction j with
  | zero => intro a wi k h; exact ⟨wi, k, rfl, h⟩
  | succ j ih =>
    intro a wi k h
    obtain ⟨r, s, e, h1⟩ := size_step hb hm h
    obtain ⟨wi', k', e2, h2⟩ := ih (a + 1) s.wi _ h1
    refine ⟨wi', k', ?_, by rw [show a + (j + 1) = a + 1 + j by omega]; exact h2⟩
    rw [List.range'_succ, sizeF, e]
    cases r <;> exact e2
theorem SzSt.nu {n k : Nat} {wi : List Int} (h : SzSt E m n wi k) (hE : ∀ p ∈ E, p.1 < n) : NuIs E k := by
  have hbl : ∀ p, p ∈ below E n ↔ p ∈ E := fun p => ⟨fun h => (mem_below.1 h).1, fun hp => mem_below.2 ⟨hp, hE p hp⟩⟩
  refine NuIs.same (E := below E n) ⟨?_, h.cov⟩ hbl
  refine ⟨((List.range m).filter (fun x => decide (0 ≤ gi wi x))).map (fun b => ((gi wi b).toNat, b)), by rw [List.length_map]; exact h.cnt, fun p hp => ?_, ?_, ?_⟩
  · obtain ⟨b, hb, rfl⟩ := List.mem_map.1 hp
    exact h.edge b (by simpa using (List.mem_filter.1 hb).2)
  · rw [List.map_map]
    refine nodup_map_on _ (List.nodup_range.sublist List.filter_sublist) fun x hx y hy e => ?_
    have h1 : 0 ≤ gi wi x := by simpa using (List.mem_filter.1 hx).2
    have h2 : 0 ≤ gi wi y := by simpa using (List.mem_filter.1 hy).2
    simp only [Function.comp] at e
    exact h.inj x y rfl rfl h1 (by omega)
  · rw [List.map_map]
    have e : (Prod.snd ∘ fun b => ((gi wi b).toNat, b)) = (id : Nat → Nat) := rfl
    rw [e, List.map_id]
    exact List.nodup_range.sublist List.filter_sublist
theorem sz_start : SzSt E m 0 (List.replicate m (-1)) 0 := by
  refine ⟨by simp, fun b c _ _ h _ => by rw [gi_rep] at h; omega, fun b h => by rw [gi_rep] at h; omega, ?_, [], [], by simp, fun p hp => by have := (mem_below.1 hp).2; omega⟩
  unfold had
  rw [List.length_eq_zero_iff, List.filter_eq_nil_iff]
  intro x _
  simp [gi_rep]
end
end Go.Proofs.Ytmekcpbcgelliaa
