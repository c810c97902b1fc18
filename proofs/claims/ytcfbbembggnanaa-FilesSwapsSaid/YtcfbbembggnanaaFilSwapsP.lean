/- FilesSwaps: the plain law. -/
import Derived.Test.YtcfbbembggnanaaFilTwice
namespace Go.Proofs.Ytcfbbembggnanaa
open Go.RowKit Go.Maps
def kn : Key := ⟨[110, 101, 119], by decide⟩
/-- f is there, firm; of others there is at most new. -/
structure SwB (N : Nat) (old : List UInt8) (S : FS) : Prop where
  room : S.room = 16777216
  left : 0 ≤ S.left ∧ S.left ≤ 5
  steps : 0 ≤ S.steps ∧ S.steps ≤ N
  get : (kf, (⟨old, old.length⟩ : Fl)) ∈ S.P
  keys : ∀ d ∈ S.P, d.1 = kf ∨ d.1 = kn
  files : ∀ d ∈ S.P, d.2.firm ≤ d.2.bs.length ∧ d.2.bs.length ≤ 100000
theorem used_le {P : FP} {c : Nat} (h : ∀ d ∈ P, d.2.bs.length ≤ c) : usedP P ≤ P.length * c := by
  induction P with
  | nil => simp [usedP]
  | cons d P ih =>
    rw [used_cons, List.length_cons, Nat.add_mul]
    have := h d (by simp)
    have := ih fun d hd => h d (by simp [hd])
    omega
variable {N : Nat} {old text : List UInt8} {S : FS}
theorem SwB.len (h : SwB N old S) (hn : (S.P.map Prod.fst).Nodup) : S.P.length ≤ 3 := by
  have := three hn (x := kf) (y := kn) (z := kn) (fun a ha => by obtain ⟨d, hd, rfl⟩ := List.mem_map.1 ha; rcases h.keys d hd with e | e; exact .inl e; exact .inr (.inl e))
  rwa [List.length_map] at this
theorem SwB.used (h : SwB N old S) (hn : (S.P.map Prod.fst).Nodup) : usedP S.P ≤ 300000 := by
  have := used_le fun d hd => (h.files d hd).2
  have := h.len hn
  omega
theorem SwB.ok (h : SwB N old S) (hn : (S.P.map Prod.fst).Nodup) (hN : N ≤ 100000) : FOk S :=
  ⟨by rw [h.room]; decide, ⟨h.left.1, by have := h.left.2; omega⟩, ⟨h.steps.1, by have := h.steps.2; omega⟩, by have := h.used hn; omega, by have := h.len hn; omega, fun d hd => ⟨(h.files d hd).1, by have := (h.files d hd).2; omega⟩⟩
theorem SwB.more (h : SwB N old S) {M : Nat} (hM : N ≤ M) : SwB M old S := ⟨h.room, h.left, ⟨h.steps.1, by have := h.steps.2; omega⟩, h.get, h.keys, h.files⟩
theorem there_in {P : FP} (hn : (P.map Prod.fst).Nodup) {x : Key} (hx : nameB x.1 = true) {fl : Fl} (hm : (x, fl) ∈ P) : thereP true P x = 0 := by
  unfold thereP
  rw [if_neg (by rw [ask_f x hx]; simp), lookup_mem hn hm]
  rfl
theorem there_off (P : FP) (x : Key) : thereP false P x = 23 := by
  unfold thereP
  have : askE false [x] = 23 := rfl
  rw [this]
  rfl
theorem left_ok {l : Int} (h : 0 ≤ l ∧ l ≤ 5) : 0 ≤ leftE l ∧ leftE l ≤ 5 := by unfold leftE; split <;> omega
theorem SwB.arm (h : SwB N old S) {n : Int} (hn : n ≤ 4) : SwB N old ⟨S.room, armE n, S.steps, S.on, S.P⟩ :=
  ⟨h.room, by show 0 ≤ armE n ∧ armE n ≤ 5; unfold armE; split <;> omega, h.steps, h.get, h.keys, h.files⟩
/-- Ahead of the new file. -/
def SwMid (S : FS) : Prop := S.on = false ∨ (S.on = true ∧ kn ∉ S.P.map Prod.fst)
theorem mem_key {P : FP} {x : Key} (h : x ∈ P.map Prod.fst) : ∃ fl, (x, fl) ∈ P := by
  obtain ⟨⟨k, fl⟩, hm, rfl⟩ := List.mem_map.1 h
  exact ⟨fl, hm⟩
theorem kf_kn : kf ≠ kn := by decide
theorem SwB.remove (h : SwB N old S) (hn : (S.P.map Prod.fst).Nodup) (ho : S.on = true) (hk : kn ∈ S.P.map Prod.fst) : ∃ e S1, eachP goneP [kn] S = (e, S1) ∧ SwB (N + 1) old S1 ∧ SwMid S1 := by
  obtain ⟨fl, hm⟩ := mem_key hk
  have ht : thereP S.on S.P kn = 0 := by rw [ho]; exact there_in hn (by decide) hm
  by_cases hl : S.left = 1
  · refine ⟨23, ⟨S.room, leftE S.left, S.steps + 1, false, S.P⟩, ?_, ⟨h.room, left_ok h.left, ⟨by have := h.steps.1; show 0 ≤ S.steps + 1; omega, by have := h.steps.2; show S.steps + 1 ≤ ((N + 1 : Nat) : Int); omega⟩, h.get, h.keys, h.files⟩, .inl rfl⟩
    unfold eachP
    rw [if_neg (by rw [ht]; simp), if_pos hl]
  · refine ⟨0, ⟨S.room, leftE S.left, S.steps + 1, true, goneP S.P kn⟩, ?_, ⟨h.room, left_ok h.left, ⟨by have := h.steps.1; show 0 ≤ S.steps + 1; omega, by have := h.steps.2; show S.steps + 1 ≤ ((N + 1 : Nat) : Int); omega⟩, ?_, fun d hd => h.keys d (List.mem_filter.1 hd).1, fun d hd => h.files d (List.mem_filter.1 hd).1⟩, .inr ⟨rfl, ?_⟩⟩
    · unfold eachP
      rw [if_neg (by rw [ht]; simp), if_neg hl]
      rfl
    · exact List.mem_filter.2 ⟨h.get, by simp [kf_kn]⟩
    · intro hc
      obtain ⟨fl2, h2⟩ := mem_key hc
      have := (List.mem_filter.1 h2).2
      simp at this
theorem app_off (h : S.on = false) (x : Key) (dl : List UInt8) : appS S x dl = (23, S) := by
  unfold appS
  have : askE S.on [x] = 23 := by rw [h]; rfl
  rw [if_pos (by rw [this]; decide), this]
theorem sync_off (h : S.on = false) (u : FP → Key → FP) (x : Key) : eachP u [x] S = (23, S) := by
  unfold eachP
  rw [h, there_off, if_pos (by decide)]
theorem ren_off (h : S.on = false) (x y : Key) : renS S x y = (23, S) := by
  unfold renS
  have : askE S.on [x, y] = 23 := by rw [h]; rfl
  rw [if_pos (by rw [this]; decide), this]
/-- Behind Append: no power, or the new file's bytes. -/
theorem SwB.app (h : SwB N old S) (hn : (S.P.map Prod.fst).Nodup) (hm : SwMid S) (ht : text.length < 100000) : ∃ a S2, appS S kn text = (a, S2) ∧ SwB (N + 1) old S2 ∧ ((a = 23 ∧ S2.on = false) ∨ (a = 0 ∧ S2.on = true ∧ (kn, (⟨text, 0⟩ : Fl)) ∈ S2.P)) := by
  rcases hm with ho | ⟨ho, hk⟩
  · exact ⟨23, S, app_off ho kn text, h.more (by omega), .inl ⟨rfl, ho⟩⟩
  · have hfull : fullP S.room S.P kn text.length = false := by
      have := h.len hn
      have := h.used hn
      unfold fullP
      rw [h.room, decide_eq_false (by omega : ¬ 256 ≤ S.P.length), Bool.and_false, Bool.false_or]
      exact decide_eq_false (by omega)
    have happ : appP S.P kn text = S.P ++ [(kn, ⟨text, 0⟩)] := by unfold appP; rw [if_neg hk]
    refine ⟨if S.left = 1 then 23 else 0, ⟨S.room, leftE S.left, S.steps + 1, S.left != 1, S.P ++ [(kn, ⟨text, 0⟩)]⟩, ?_, ⟨h.room, left_ok h.left, ⟨by have := h.steps.1; show 0 ≤ S.steps + 1; omega, by have := h.steps.2; show S.steps + 1 ≤ ((N + 1 : Nat) : Int); omega⟩, ?_, fun d hd => ?_, fun d hd => ?_⟩, ?_⟩
    · unfold appS
      rw [if_neg (by rw [ho, ask_f kn (by decide)]; simp), hfull, happ]
      rfl
    · exact List.mem_append.2 (.inl h.get)
    · rcases List.mem_append.1 hd with hd | hd
      · exact h.keys d hd
      · simp at hd; rw [hd]; exact .inr rfl
    · rcases List.mem_append.1 hd with hd | hd
      · exact h.files d hd
      · simp at hd; rw [hd]; exact ⟨Nat.zero_le _, by show text.length ≤ _; omega⟩
    · by_cases hl : S.left = 1
      · exact .inl ⟨if_pos hl, by show (S.left != 1) = false; simp [hl]⟩
      · exact .inr ⟨if_neg hl, by show (S.left != 1) = true; simp [hl], List.mem_append.2 (.inr (by simp))⟩
/-- Behind Sync. -/
theorem SwB.sync (h : SwB N old S) (hn : (S.P.map Prod.fst).Nodup) (hm : S.on = false ∨ (S.on = true ∧ (kn, (⟨text, 0⟩ : Fl)) ∈ S.P)) : ∃ b S3, eachP firmP [kn] S = (b, S3) ∧ SwB (N + 1) old S3 ∧ ((b = 23 ∧ S3.on = false) ∨ (b = 0 ∧ S3.on = true ∧ (kn, (⟨text, text.length⟩ : Fl)) ∈ S3.P)) := by
  rcases hm with ho | ⟨ho, hk⟩
  · exact ⟨23, S, sync_off ho _ kn, h.more (by omega), .inl ⟨rfl, ho⟩⟩
  · have ht : thereP S.on S.P kn = 0 := by rw [ho]; exact there_in hn (by decide) hk
    by_cases hl : S.left = 1
    · refine ⟨23, ⟨S.room, leftE S.left, S.steps + 1, false, S.P⟩, ?_, ⟨h.room, left_ok h.left, ⟨by have := h.steps.1; show 0 ≤ S.steps + 1; omega, by have := h.steps.2; show S.steps + 1 ≤ ((N + 1 : Nat) : Int); omega⟩, h.get, h.keys, h.files⟩, .inl ⟨rfl, rfl⟩⟩
      unfold eachP
      rw [if_neg (by rw [ht]; simp), if_pos hl]
    · refine ⟨0, ⟨S.room, leftE S.left, S.steps + 1, true, firmP S.P kn⟩, ?_, ⟨h.room, left_ok h.left, ⟨by have := h.steps.1; show 0 ≤ S.steps + 1; omega, by have := h.steps.2; show S.steps + 1 ≤ ((N + 1 : Nat) : Int); omega⟩, ?_, fun d hd => ?_, fun d hd => ?_⟩, .inr ⟨rfl, rfl, ?_⟩⟩
      · unfold eachP
        rw [if_neg (by rw [ht]; simp), if_neg hl]
        rfl
      · exact List.mem_map.2 ⟨_, h.get, by rw [if_neg kf_kn]⟩
      · obtain ⟨d0, h0, rfl⟩ := List.mem_map.1 hd
        split
        · exact .inr rfl
        · exact h.keys d0 h0
      · obtain ⟨d0, h0, rfl⟩ := List.mem_map.1 hd
        have := h.files d0 h0
        split
        · exact ⟨Nat.le_refl _, this.2⟩
        · exact this
      · exact List.mem_map.2 ⟨_, hk, by rw [if_pos rfl]⟩
/-- Behind Rename. -/
theorem SwB.ren (h : SwB N old S) (hn : (S.P.map Prod.fst).Nodup) (ht : text.length < 100000) (hm : S.on = false ∨ (S.on = true ∧ (kn, (⟨text, text.length⟩ : Fl)) ∈ S.P)) : ∃ c S4, renS S kn kf = (c, S4) ∧ ((c = 23 ∧ S4.on = false ∧ SwB (N + 1) old S4) ∨ (c = 0 ∧ S4.on = true ∧ SwB (N + 1) text S4)) := by
  rcases hm with ho | ⟨ho, hk⟩
  · exact ⟨23, S, ren_off ho kn kf, .inl ⟨rfl, ho, h.more (by omega)⟩⟩
  · have hth : thereP S.on S.P kn = 0 := by rw [ho]; exact there_in hn (by decide) hk
    have hask : askE S.on [kn, kf] = 0 := by rw [ho]; decide
    by_cases hl : S.left = 1
    · refine ⟨23, ⟨S.room, leftE S.left, S.steps + 1, false, S.P⟩, ?_, .inl ⟨rfl, rfl, h.room, left_ok h.left, ⟨by have := h.steps.1; show 0 ≤ S.steps + 1; omega, by have := h.steps.2; show S.steps + 1 ≤ ((N + 1 : Nat) : Int); omega⟩, h.get, h.keys, h.files⟩⟩
      unfold renS eachP
      rw [if_neg (by rw [hask]; simp), if_neg (by rw [hth]; simp), if_pos hl]
    · have hren : renP kf S.P kn = putL (goneP S.P kn) kf ⟨text, text.length⟩ := by unfold renP; rw [lookup_mem hn hk]
      have hin : (kf, (⟨old, old.length⟩ : Fl)) ∈ goneP S.P kn := List.mem_filter.2 ⟨h.get, by simp [kf_kn]⟩
      have hput : putL (goneP S.P kn) kf (⟨text, text.length⟩ : Fl) = (goneP S.P kn).map fun d => if d.1 = kf then (kf, ⟨text, text.length⟩) else d := by
        unfold putL
        rw [if_pos (List.mem_map.2 ⟨_, hin, rfl⟩)]
      refine ⟨0, ⟨S.room, leftE S.left, S.steps + 1, true, renP kf S.P kn⟩, ?_, .inr ⟨rfl, rfl, h.room, left_ok h.left, ⟨by have := h.steps.1; show 0 ≤ S.steps + 1; omega, by have := h.steps.2; show S.steps + 1 ≤ ((N + 1 : Nat) : Int); omega⟩, ?_, fun d hd => ?_, fun d hd => ?_⟩⟩
      · unfold renS eachP
        rw [if_neg (by rw [hask]; simp), if_neg (by rw [hth]; simp), if_neg hl]
        rfl
      · show _ ∈ renP kf S.P kn
        rw [hren, hput]
        exact List.mem_map.2 ⟨_, hin, by rw [if_pos rfl]⟩
      · have hd2 : d ∈ renP kf S.P kn := hd
        rw [hren, hput] at hd2
        obtain ⟨d0, h0, rfl⟩ := List.mem_map.1 hd2
        split
        · exact .inl rfl
        · exact h.keys d0 (List.mem_filter.1 h0).1
      · have hd2 : d ∈ renP kf S.P kn := hd
        rw [hren, hput] at hd2
        obtain ⟨d0, h0, rfl⟩ := List.mem_map.1 hd2
        split
        · exact ⟨Nat.le_refl _, by show text.length ≤ _; omega⟩
        · exact h.files d0 (List.mem_filter.1 h0).1
/-- A crash leaves f. -/
theorem SwB.lose {P : FP} (x : Key) (p : Int) (h1 : (kf, (⟨old, old.length⟩ : Fl)) ∈ P) (h2 : ∀ d ∈ P, d.1 = kf ∨ d.1 = kn) (h3 : ∀ d ∈ P, d.2.firm ≤ d.2.bs.length ∧ d.2.bs.length ≤ 100000) :
    (kf, (⟨old, old.length⟩ : Fl)) ∈ loseP P x p ∧ (∀ d ∈ loseP P x p, d.1 = kf ∨ d.1 = kn) ∧ ∀ d ∈ loseP P x p, d.2.firm ≤ d.2.bs.length ∧ d.2.bs.length ≤ 100000 := by
  refine ⟨?_, fun d hd => ?_, fun d hd => ?_⟩
  · by_cases e : kf = x
    · subst e
      exact List.mem_map.2 ⟨_, h1, by rw [if_pos rfl]; unfold loseFl; rw [if_neg (Nat.lt_irrefl _)]⟩
    · exact List.mem_map.2 ⟨_, h1, by rw [if_neg e]⟩
  · obtain ⟨d0, h0, rfl⟩ := List.mem_map.1 hd
    by_cases e : d0.1 = x
    · rw [if_pos e, ← e]
      exact h2 d0 h0
    · rw [if_neg e]; exact h2 d0 h0
  · obtain ⟨d0, h0, rfl⟩ := List.mem_map.1 hd
    have := h3 d0 h0
    by_cases e : d0.1 = x
    · rw [if_pos e]
      have q1 := loseFl_firm this.1 p
      have q2 := loseFl_le d0.2 p
      show (loseFl d0.2 p).firm ≤ (loseFl d0.2 p).bs.length ∧ (loseFl d0.2 p).bs.length ≤ 100000
      omega
    · rw [if_neg e]; exact this
theorem SwB.crashed : ∀ (ns : List Key) (P : FP) (ps : List Int), (kf, (⟨old, old.length⟩ : Fl)) ∈ P → (∀ d ∈ P, d.1 = kf ∨ d.1 = kn) → (∀ d ∈ P, d.2.firm ≤ d.2.bs.length ∧ d.2.bs.length ≤ 100000) →
    (kf, (⟨old, old.length⟩ : Fl)) ∈ crashP ns P ps ∧ (∀ d ∈ crashP ns P ps, d.1 = kf ∨ d.1 = kn) ∧ ∀ d ∈ crashP ns P ps, d.2.firm ≤ d.2.bs.length ∧ d.2.bs.length ≤ 100000
  | [], _, _, h1, h2, h3 => ⟨h1, h2, h3⟩
  | x :: ns, P, ps, h1, h2, h3 => by
    unfold crashP
    obtain ⟨q1, q2, q3⟩ := SwB.lose x (pkH ps) h1 h2 h3
    exact SwB.crashed ns _ _ q1 q2 q3
theorem SwB.crash (h : SwB N old S) (ns : List Key) (ps : List Int) : SwB N old ⟨S.room, 0, S.steps, true, crashP ns S.P ps⟩ := by
  obtain ⟨q1, q2, q3⟩ := SwB.crashed ns S.P ps h.get h.keys h.files
  exact ⟨h.room, by simp, h.steps, q1, q2, q3⟩
theorem SwB.read (h : SwB N old S) (hn : (S.P.map Prod.fst).Nodup) (ho : S.on = true) : readP S.on S.P kf = old ∧ thereP S.on S.P kf = 0 := by
  have ht : thereP S.on S.P kf = 0 := by rw [ho]; exact there_in hn (by decide) h.get
  unfold readP
  rw [ht, if_pos rfl, lookup_mem hn h.get]
  exact ⟨rfl, rfl⟩
/-- What List("new") shows. -/
theorem sw_list {ns : List Key} {P : FP} (hp : ns.Perm (P.map Prod.fst)) (hk : ∀ d ∈ P, d.1 = kf ∨ d.1 = kn) : (0 < (ns.filter (prefK kn)).length) ↔ kn ∈ P.map Prod.fst := by
  rw [List.length_pos_iff_exists_mem]
  constructor
  · rintro ⟨a, ha⟩
    obtain ⟨h1, h2⟩ := List.mem_filter.1 ha
    have h3 := hp.mem_iff.1 h1
    obtain ⟨fl, h4⟩ := mem_key h3
    rcases hk _ h4 with e | e
    · simp only at e
      rw [e, prefK_eq] at h2
      exact absurd h2 (by decide)
    · simp only at e
      rw [← e]; exact h3
  · intro h
    exact ⟨kn, List.mem_filter.2 ⟨hp.mem_iff.2 h, by rw [prefK_eq]; decide⟩⟩
end Go.Proofs.Ytcfbbembggnanaa
