/- FilesTwice: the plain law. -/
import Derived.Test.YtcfbbembggnanaaFilFirm
namespace Go.Proofs.Ytcfbbembggnanaa
open Go.RowKit Go.Maps
/-- Between two rounds: files a and b alone. -/
structure TwSt (k : Nat) (size : Nat) (S : FS) : Prop where
  room : S.room = 16777216
  left : S.left = 0
  on : S.on = true
  steps : 0 ≤ S.steps ∧ S.steps ≤ 2 * k
  used : usedP S.P ≤ size
  keys : ∀ d ∈ S.P, d.1 = ka ∨ d.1 = kb
  files : ∀ d ∈ S.P, d.2.firm ≤ d.2.bs.length
theorem bs_used {P : FP} {d : Key × Fl} (h : d ∈ P) : d.2.bs.length ≤ usedP P := by
  induction P with
  | nil => simp at h
  | cons c P ih =>
    rw [used_cons]
    rcases List.mem_cons.1 h with rfl | h
    · omega
    · have := ih h; omega
theorem app_files {P : FP} (h : ∀ d ∈ P, d.2.firm ≤ d.2.bs.length) (x : Key) (dl : List UInt8) : ∀ d ∈ appP P x dl, d.2.firm ≤ d.2.bs.length := by
  intro d hd
  unfold appP at hd
  split at hd
  · obtain ⟨d0, h0, rfl⟩ := List.mem_map.1 hd
    have := h d0 h0
    split
    · simp only [List.length_append]; omega
    · exact this
  · rcases List.mem_append.1 hd with hd | hd
    · exact h d hd
    · simp at hd
      rw [hd]
      simp
theorem TwSt.len {k size : Nat} {S : FS} (h : TwSt k size S) (hn : (S.P.map Prod.fst).Nodup) : S.P.length ≤ 3 := by
  have := three hn (x := ka) (y := kb) (z := kb) (fun a ha => by obtain ⟨d, hd, rfl⟩ := List.mem_map.1 ha; rcases h.keys d hd with e | e; exact .inl e; exact .inr (.inl e))
  rwa [List.length_map] at this
theorem TwSt.ok {k size : Nat} {S : FS} (h : TwSt k size S) (hn : (S.P.map Prod.fst).Nodup) (hk : k ≤ 1000) (hs : size ≤ 1048576) : FOk S := by
  have hl := h.len hn
  refine ⟨by rw [h.room]; decide, by rw [h.left]; decide, ⟨h.steps.1, by have := h.steps.2; omega⟩, by have := h.used; omega, by omega, fun d hd => ⟨h.files d hd, ?_⟩⟩
  have := bs_used hd
  have := h.used
  omega
theorem TwSt.app {k size : Nat} {S : FS} (h : TwSt k size S) (hn : (S.P.map Prod.fst).Nodup) {x : Key} (hx : x = ka ∨ x = kb) (dl : List UInt8) (hs : size + dl.length ≤ 1048576) :
    ∃ S', appS S x dl = (0, S') ∧ S'.room = 16777216 ∧ S'.left = 0 ∧ S'.on = true ∧ (0 ≤ S'.steps ∧ S'.steps ≤ 2 * k + 1) ∧ usedP S'.P ≤ size + dl.length ∧ (∀ d ∈ S'.P, d.1 = ka ∨ d.1 = kb) ∧ (∀ d ∈ S'.P, d.2.firm ≤ d.2.bs.length) ∧ x ∈ S'.P.map Prod.fst := by
  have hnm : nameB x.1 = true := by rcases hx with rfl | rfl <;> decide
  have hlen := h.len hn
  have hus := h.used
  have hfull : fullP S.room S.P x dl.length = false := by
    unfold fullP
    rw [h.room, decide_eq_false (by omega : ¬ 256 ≤ S.P.length), Bool.and_false, Bool.false_or]
    exact decide_eq_false (by omega)
  refine ⟨⟨S.room, 0, S.steps + 1, true, appP S.P x dl⟩, ?_, h.room, rfl, rfl, ⟨by have := h.steps.1; show 0 ≤ S.steps + 1; omega, by have := h.steps.2; show S.steps + 1 ≤ _; omega⟩, ?_, fun d hd => ?_, app_files h.files x dl, ?_⟩
  · unfold appS
    rw [if_neg (by rw [h.on, ask_f x hnm]; simp), hfull, h.left]
    rfl
  · show usedP (appP S.P x dl) ≤ _
    rw [used_app hn]; omega
  · rcases app_keys hd with e | ⟨d0, h0, e⟩
    · rw [e]; exact hx
    · rw [← e]; exact h.keys d0 h0
  · show x ∈ (appP S.P x dl).map Prod.fst
    unfold appP
    split
    · rename_i hm
      obtain ⟨d, hd, e⟩ := List.mem_map.1 hm
      exact List.mem_map.2 ⟨_, List.mem_map.2 ⟨d, hd, rfl⟩, by rw [if_pos e]⟩
    · simp
theorem get_some {P : FP} {x : Key} (h : x ∈ P.map Prod.fst) : ∃ fl, getL P x = some fl := by
  induction P with
  | nil => simp at h
  | cons d P ih =>
    obtain ⟨k, z⟩ := d
    rw [getL_cons]
    by_cases e : x = k
    · exact ⟨z, if_pos e⟩
    · rw [if_neg e]
      rw [List.map_cons, List.mem_cons] at h
      rcases h with h | h
      · exact absurd h e
      · exact ih h
theorem used_firm (P : FP) (x : Key) : usedP (firmP P x) = usedP P := by
  unfold firmP
  induction P with
  | nil => rfl
  | cons d P ih =>
    rw [List.map_cons, used_cons, used_cons, ih]
    split <;> rfl
theorem sync_tw {k size : Nat} {S' : FS} (h1 : S'.room = 16777216) (h2 : S'.left = 0) (h3 : S'.on = true) (h4 : 0 ≤ S'.steps ∧ S'.steps ≤ 2 * k + 1) (h5 : usedP S'.P ≤ size) (h6 : ∀ d ∈ S'.P, d.1 = ka ∨ d.1 = kb) (h7 : ∀ d ∈ S'.P, d.2.firm ≤ d.2.bs.length) {x : Key} (hx : x = ka ∨ x = kb) (hm : x ∈ S'.P.map Prod.fst) :
    ∃ S'', eachP firmP [x] S' = (0, S'') ∧ TwSt (k + 1) size S'' := by
  have hnm : nameB x.1 = true := by rcases hx with rfl | rfl <;> decide
  obtain ⟨fl, hfl⟩ := get_some hm
  have ht : thereP S'.on S'.P x = 0 := by
    unfold thereP
    rw [if_neg (by rw [h3, ask_f x hnm]; simp), hfl]
    rfl
  refine ⟨⟨S'.room, 0, S'.steps + 1, true, firmP S'.P x⟩, ?_, h1, rfl, rfl, ⟨by show 0 ≤ S'.steps + 1; omega, by show S'.steps + 1 ≤ 2 * ((k + 1 : Nat) : Int); omega⟩, by rw [used_firm]; exact h5, fun d hd => ?_, fun d hd => ?_⟩
  · unfold eachP
    rw [if_neg (by rw [ht]; simp), h2]
    rfl
  · obtain ⟨d0, h0, rfl⟩ := List.mem_map.1 hd
    split
    · exact hx
    · exact h6 d0 h0
  · obtain ⟨d0, h0, rfl⟩ := List.mem_map.1 hd
    split
    · exact Nat.le_refl _
    · exact h7 d0 h0
/-- Nothing is loose: a crash takes nothing. -/
def allFirm (P : FP) : Prop := ∀ d ∈ P, d.2.firm = d.2.bs.length
theorem lose_firm {P : FP} (h : allFirm P) (x : Key) (p : Int) : loseP P x p = P := by
  unfold loseP
  conv => rhs; rw [← List.map_id P]
  refine List.map_congr_left fun d hd => ?_
  have := h d hd
  split
  · rename_i e
    obtain ⟨k, f⟩ := d
    simp only at e this
    subst e
    have h2 : f.firm = f.bs.length := this
    unfold loseFl
    rw [if_neg (by show ¬ f.firm < f.bs.length; omega), ← h2]
    rfl
  · rfl
theorem crash_firm {P : FP} (h : allFirm P) : ∀ (ns : List Key) (ps : List Int), crashP ns P ps = P
  | [], _ => rfl
  | x :: ns, ps => by
    unfold crashP
    rw [lose_firm h, crash_firm h ns]
theorem lose_keys (P : FP) (x : Key) (p : Int) : (loseP P x p).map Prod.fst = P.map Prod.fst := by
  unfold loseP
  rw [List.map_map]
  refine List.map_congr_left fun d _ => ?_
  simp only [Function.comp]
  split
  · rename_i e; exact e.symm
  · rfl
theorem crash_keys : ∀ (ns : List Key) (P : FP) (ps : List Int), (crashP ns P ps).map Prod.fst = P.map Prod.fst
  | [], _, _ => rfl
  | x :: ns, P, ps => by
    unfold crashP
    rw [crash_keys ns, lose_keys]
theorem loseFl_firm {f : Fl} (h : f.firm ≤ f.bs.length) (p : Int) : (loseFl f p).firm = (loseFl f p).bs.length := by
  have := loseN_le (fl := f) p h
  unfold loseFl
  split
  · simp only [List.length_take]
    omega
  · rfl
theorem loseFl_le (f : Fl) (p : Int) : (loseFl f p).bs.length ≤ f.bs.length := by
  unfold loseFl
  split
  · simp only [List.length_take]; omega
  · exact Nat.le_refl _
/-- What has been lost is firm; the rest as it was. -/
theorem crash_all : ∀ (ns : List Key) (P : FP) (ps : List Int), (∀ d ∈ P, d.2.firm ≤ d.2.bs.length) → (∀ d ∈ P, d.1 ∈ ns ∨ d.2.firm = d.2.bs.length) → allFirm (crashP ns P ps) ∧ usedP (crashP ns P ps) ≤ usedP P
  | [], P, ps, _, h => ⟨fun d hd => by rcases h d hd with h | h; simp at h; exact h, Nat.le_refl _⟩
  | x :: ns, P, ps, h0, h => by
    unfold crashP
    have := crash_all ns (loseP P x (pkH ps)) (if looseP P x then ps.tail else ps) (fun d hd => by
      obtain ⟨d0, q, rfl⟩ := List.mem_map.1 hd
      split
      · exact Nat.le_of_eq (loseFl_firm (h0 d0 q) _)
      · exact h0 d0 q) (fun d hd => by
      obtain ⟨d0, q, rfl⟩ := List.mem_map.1 hd
      by_cases e : d0.1 = x
      · rw [if_pos e]
        exact .inr (loseFl_firm (h0 d0 q) _)
      · rw [if_neg e]
        rcases h d0 q with h | h
        · rcases List.mem_cons.1 h with h | h
          · exact absurd h e
          · exact .inl h
        · exact .inr h)
    refine ⟨this.1, Nat.le_trans this.2 ?_⟩
    clear this h h0
    unfold loseP
    induction P with
    | nil => simp
    | cons d P ih =>
      rw [List.map_cons, used_cons, used_cons]
      have := loseFl_le d.2 (pkH ps)
      split
      · show (loseFl d.2 (pkH ps)).bs.length + _ ≤ _
        omega
      · omega
end Go.Proofs.Ytcfbbembggnanaa
