/- The canonical clock as a function; what the laws call, with its answers. -/
import Derived.Test.YtaglginhaofgeaaClkParse
namespace Go.Proofs.Ytaglginhaofgeaa
open Go.RowKit Go.Shelf
open Ck Pk
theorem snoc_ind {α : Type} {P : List α → Prop} (h0 : P []) (h1 : ∀ l d, P l → P (l ++ [d])) : ∀ l, P l := by
  intro l
  rw [← l.reverse_reverse]
  induction l.reverse with
  | nil => exact h0
  | cons d r ih => rw [List.reverse_cons]; exact h1 _ _ ih
namespace Ck
def insL : List Dot → Dot → List Dot
  | [], d => [d]
  | x :: r, d => if x.a < d.a then x :: insL r d else if x.a = d.a then ⟨x.a, max x.n d.n⟩ :: r else d :: x :: r
def stepL (o : List Dot) (d : Dot) : List Dot := if d.n = 0 then o else insL o d
def normL (ds : List Dot) : List Dot := ds.foldl stepL []
theorem normL_snoc (ds : List Dot) (d : Dot) : normL (ds ++ [d]) = stepL (normL ds) d := by unfold normL; rw [List.foldl_append]; rfl
theorem insL_a {l : List Dot} {d x : Dot} (h : x ∈ insL l d) : x.a = d.a ∨ ∃ y ∈ l, y.a = x.a := by
  induction l with
  | nil => simp [insL] at h; exact .inl (by rw [h])
  | cons y r ih =>
    unfold insL at h
    split at h
    · rcases List.mem_cons.1 h with rfl | h
      · exact .inr ⟨_, List.mem_cons_self, rfl⟩
      · rcases ih h with h1 | ⟨z, hz, hz2⟩
        · exact .inl h1
        · exact .inr ⟨z, List.mem_cons_of_mem _ hz, hz2⟩
    · split at h
      · rcases List.mem_cons.1 h with rfl | h
        · exact .inr ⟨y, List.mem_cons_self, rfl⟩
        · exact .inr ⟨x, List.mem_cons_of_mem _ h, rfl⟩
      · rcases List.mem_cons.1 h with rfl | h
        · exact .inl rfl
        · exact .inr ⟨x, h, rfl⟩
theorem insL_sorted {l : List Dot} {d : Dot} (h : l.Pairwise fun x y => x.a < y.a) : (insL l d).Pairwise fun x y => x.a < y.a := by
  induction l with
  | nil => simp [insL]
  | cons y r ih =>
    obtain ⟨h1, h2⟩ := List.pairwise_cons.1 h
    unfold insL
    split
    · rename_i hlt
      refine List.pairwise_cons.2 ⟨fun x hx => ?_, ih h2⟩
      rcases insL_a hx with e | ⟨z, hz, e⟩
      · rw [e]; exact hlt
      · rw [← e]; exact h1 z hz
    · split
      · rename_i hne
        exact List.pairwise_cons.2 ⟨fun x hx => h1 x hx, h2⟩
      · refine List.pairwise_cons.2 ⟨fun x hx => ?_, h⟩
        rcases List.mem_cons.1 hx with rfl | hx
        · omega
        · have := h1 x hx; omega
theorem insL_pos {l : List Dot} {d x : Dot} (hl : ∀ y ∈ l, 0 < y.n) (hd : 0 < d.n) (h : x ∈ insL l d) : 0 < x.n := by
  induction l with
  | nil => simp [insL] at h; rw [h]; exact hd
  | cons y r ih =>
    unfold insL at h
    have hy := hl y List.mem_cons_self
    have hr : ∀ z ∈ r, 0 < z.n := fun z hz => hl z (List.mem_cons_of_mem _ hz)
    split at h
    · rcases List.mem_cons.1 h with rfl | h
      · exact hy
      · exact ih hr h
    · split at h
      · rcases List.mem_cons.1 h with rfl | h
        · simp only; omega
        · exact hr _ h
      · rcases List.mem_cons.1 h with rfl | h
        · exact hd
        · exact hl _ h
theorem insL_get {l : List Dot} {d : Dot} (a : Nat) : getN (insL l d) a = max (getN l a) (if d.a = a then d.n else 0) := by
  induction l with
  | nil => simp [insL, getN_cons, getN_nil]
  | cons y r ih =>
    unfold insL
    split
    · rw [getN_cons, getN_cons, ih]; omega
    · split
      · rename_i h1 h2
        rw [getN_cons, getN_cons, h2]
        simp only
        by_cases h : d.a = a
        · simp only [h, if_true]; omega
        · simp only [h, if_false]; omega
      · rw [getN_cons, getN_cons]; omega
theorem normL_ok (ds : List Dot) : (normL ds).Pairwise (fun x y => x.a < y.a) ∧ (∀ d ∈ normL ds, 0 < d.n) ∧ ∀ a, getN (normL ds) a = getN ds a := by
  refine snoc_ind (P := fun ds => (normL ds).Pairwise (fun x y => x.a < y.a) ∧ (∀ d ∈ normL ds, 0 < d.n) ∧ ∀ a, getN (normL ds) a = getN ds a) ?_ ?_ ds
  · exact ⟨List.Pairwise.nil, by simp [normL], fun a => rfl⟩
  · intro ds d ih
    obtain ⟨h1, h2, h3⟩ := ih
    rw [normL_snoc]
    unfold stepL
    split
    · rename_i h0
      refine ⟨h1, h2, fun a => ?_⟩
      rw [h3, getN_snoc]
      unfold stepN
      split <;> omega
    · refine ⟨insL_sorted h1, fun x hx => insL_pos h2 (by omega) hx, fun a => ?_⟩
      rw [insL_get, h3, getN_snoc]
      unfold stepN
      split
      · rfl
      · omega
theorem getN_mem {l : List Dot} (h : l.Pairwise fun x y => x.a < y.a) {d : Dot} (hd : d ∈ l) : getN l d.a = d.n := by
  induction l with
  | nil => simp at hd
  | cons y r ih =>
    obtain ⟨h1, h2⟩ := List.pairwise_cons.1 h
    rw [getN_cons]
    rcases List.mem_cons.1 hd with rfl | hd
    · rw [if_pos rfl]
      have : getN r d.a ≤ 0 := by
        rw [getN_le]
        intro x hx e
        have := h1 x hx
        omega
      omega
    · have := h1 d hd
      rw [if_neg (by omega), ih h2 hd]
      omega
theorem canon_norm (ds : List Dot) : Canon (normL ds) ds := by
  obtain ⟨h1, h2, h3⟩ := normL_ok ds
  refine ⟨Sorted.of h1, fun d hd => ⟨h2 d hd, by rw [← h3, getN_mem h1 hd]⟩, fun a ha => ?_⟩
  rw [← h3] at ha
  rcases getN_ex (normL ds) a with h0 | ⟨x, hx, hxa, _⟩
  · omega
  · exact ⟨x, hx, hxa⟩
theorem Canon.eq {out ds : List Dot} (h : Canon out ds) : out = normL ds := h.uniq (canon_norm ds)
theorem normL_ext {l r : List Dot} (h : ∀ a, getN l a = getN r a) : normL l = normL r := (canon_norm l).ext (canon_norm r) h
theorem normL_get (l : List Dot) (a : Nat) : getN (normL l) a = getN l a := (canon_norm l).get a
theorem insL_len (l : List Dot) (d : Dot) : (insL l d).length ≤ l.length + 1 := by
  induction l with
  | nil => simp [insL]
  | cons y r ih => unfold insL; split <;> (try split) <;> simp <;> omega
theorem normL_len (ds : List Dot) : (normL ds).length ≤ ds.length := by
  refine snoc_ind (P := fun ds => (normL ds).length ≤ ds.length) (by simp [normL]) ?_ ds
  · intro ds d ih
    rw [normL_snoc, List.length_append]
    unfold stepL
    have := insL_len (normL ds) d
    split
    · simp; omega
    · simp; omega
end Ck
/-- What a call that makes a clock leaves. -/
def Ck.Made (w : World) (e : Ending) (w' : World) (out : List Dot) : Prop := (∃ v, e = .returned v ∧ w'.ownsRow w.heap.size 27 2 v out.length (out.flatMap Dot.cells)) ∧ Fr w.heap.size [] w w'
theorem norm_is (w : World) (v : Value) (ds : List Dot) (hds : ds.length ≤ 8796093022208) (h : ClkIn w v ds) : Calls Try.prog 13 #[v] w fun e w' => Made w e w' (normL ds) :=
  (norm_any w v ds hds h).mono fun e w' ⟨⟨v', out, h1, h2, h3, _⟩, h5⟩ => by rw [h3.eq] at h2; exact ⟨⟨v', h1, h2⟩, h5⟩
theorem merges_is (w : World) (vs : List Value) (L : List (List Dot)) (n c : Nat) (hn : n = L.length) (hc : c = L.length) (hL : L.length ≤ 1000000) (hds : ∀ ds ∈ L, ds.length ≤ 8796093022208) (hLL : L.flatten.length ≤ 8796093022208) (hl : vs.length = L.length)
    (h : ∀ (j : Nat) (v : Value) (ds : List Dot), vs[j]? = some v → L[j]? = some ds → ClkIn w v ds) :
    Calls Try.prog 12 #[.slice (some ⟨w.heap.size, 0, none⟩) n c] (w.alloc (.cells vs.toArray 23)) fun e w' => Made w e w' (normL L.flatten) := by
  subst hn hc
  refine (merge_any _ _ _ _ L hL hds hLL (clks_new hl h)).mono fun e w' ⟨⟨v', out, h1, h2, h3, _⟩, h5⟩ => ?_
  rw [h3.eq] at h2
  exact ⟨⟨v', h1, row_base h2 (by simp)⟩, ((Fr.refl _ _ _).alloc (Nat.le_refl _) _).trans (h5.mono (by simp) (by simp))⟩
theorem merge2_is (w : World) (u v : Value) (xs ys : List Dot) (hx : xs.length + ys.length ≤ 8796093022208) (hu : ClkIn w u xs) (hv : ClkIn w v ys) :
    Calls Try.prog 12 #[.slice (some ⟨w.heap.size, 0, none⟩) 2 2] (w.alloc (.cells #[u, v] 23)) fun e w' => Made w e w' (normL (xs ++ ys)) := by
  have := merges_is w [u, v] [xs, ys] 2 2 rfl rfl (by simp) (by simp; omega) (by simp; omega) rfl (fun j x es hx he => by
    match j, hx, he with
    | 0, hx, he => simp at hx he; subst hx he; exact hu
    | 1, hx, he => simp at hx he; subst hx he; exact hv
    | j + 2, hx, he => simp at hx)
  simpa using this
theorem merge3_is (w : World) (u v z : Value) (xs ys zs : List Dot) (hx : xs.length + ys.length + zs.length ≤ 8796093022208) (hu : ClkIn w u xs) (hv : ClkIn w v ys) (hz : ClkIn w z zs) :
    Calls Try.prog 12 #[.slice (some ⟨w.heap.size, 0, none⟩) 3 3] (w.alloc (.cells #[u, v, z] 23)) fun e w' => Made w e w' (normL (xs ++ ys ++ zs)) := by
  have := merges_is w [u, v, z] [xs, ys, zs] 3 3 rfl rfl (by simp) (by simp; omega) (by simp; omega) rfl (fun j x es hx he => by
    match j, hx, he with
    | 0, hx, he => simp at hx he; subst hx he; exact hu
    | 1, hx, he => simp at hx he; subst hx he; exact hv
    | 2, hx, he => simp at hx he; subst hx he; exact hz
    | j + 3, hx, he => simp at hx)
  simpa using this
theorem add1_is (w : World) (u : Value) (xs : List Dot) (d : Dot) (hx : xs.length + 1 ≤ 8796093022208) (hu : ClkIn w u xs) :
    Calls Try.prog 23 #[u, .slice (some ⟨w.heap.size, 0, none⟩) 1 1] (w.alloc (.cells #[.int .u64 (d.a : Int), .int .u64 (d.n : Int)] 27)) fun e w' => Made w e w' (normL (xs ++ [d])) := by
  have hF := (Fr.refl w.heap.size [] w).alloc (Nat.le_refl _) (.cells #[.int .u64 (d.a : Int), .int .u64 (d.n : Int)] 27)
  have hd : ClkIn (w.alloc (.cells #[.int .u64 (d.a : Int), .int .u64 (d.n : Int)] 27)) (.slice (some ⟨w.heap.size, 0, none⟩) 1 1) [d] :=
    ⟨_, _, rfl, .inr ⟨w.heap.size, 0, rfl, by simp, fun j u hu => by rw [Nat.zero_add]; exact ((Has.new w 27 [_, _]).cell j).trans hu⟩⟩
  refine (add_any _ _ _ xs [d] (by simpa using hx) (clkIn_fr hu hF) hd).mono fun e w' ⟨⟨v', out, h1, h2, h3, _⟩, h5⟩ => ?_
  rw [h3.eq] at h2
  exact ⟨⟨v', h1, row_base h2 (by simp)⟩, hF.trans (h5.mono hF.size (by simp))⟩
theorem covers_is (w : World) (v : Value) (ds : List Dot) (x : Dot) (b : Bool) (hb : coversB ds x = b) (hds : ds.length ≤ 8796093022208) (hI : ClkIn w v ds) :
    Calls Try.prog 14 #[v, .agg #[.int .u64 (x.a : Int), .int .u64 (x.n : Int)]] w fun e w' => e = .returned (.bool b) ∧ Fr w.heap.size [] w w' := hb ▸ covers_any w v ds x hds hI
theorem compare_is (w : World) (u v : Value) (xs ys : List Dot) (c : Int) (hc : cmpC xs ys = c) (hxs : xs.length ≤ 8796093022208) (hys : ys.length ≤ 8796093022208) (hu : ClkIn w u xs) (hv : ClkIn w v ys) :
    Calls Try.prog 15 #[u, v] w fun e w' => e = .returned (.int .i64 c) ∧ Fr w.heap.size [] w w' := hc ▸ compare_any w u v xs ys hxs hys hu hv
theorem clkIn_alloc {w : World} {v : Value} {ds : List Dot} (h : ClkIn w v ds) (o : Obj) : ClkIn (w.alloc o) v ds := clkIn_fr h ((Fr.refl _ _ _).alloc (Nat.le_refl _) _)
/-- Two lists, dot by dot. -/
theorem sameC_any (w : World) (u v : Value) (xs ys : List Dot) (he : xs = ys) (hxs : xs.length ≤ 8796093022208) (hu : ClkIn w u xs) (hv : ClkIn w v ys) :
    Calls Try.prog 11 #[u, v] w fun e w' => e = .returned (.bool true) ∧ Fr w.heap.size [] w w' := by
  subst he
  obtain ⟨A, c, rfl, hA⟩ := hu
  obtain ⟨A2, c2, rfl, hA2⟩ := hv
  go_enter Try.func11, Try.ntmps11
  go_wp2
  go_loopw [5] (fun i wr => ∃ (k n : Nat), k ≤ xs.length ∧ i = .int .i64 (k : Int) ∧ wr = w.drewN n) (fun i _ => xs.length - (intOf i).toNat)
  case atStart => exact ⟨0, 0, by omega, rfl, rfl⟩
  case round =>
    obtain ⟨k, n, hk, rfl, rfl⟩ := hrel
    by_cases hlt : k < xs.length
    · obtain ⟨blk, o, rfl, hblk, hcell⟩ := ARow.at (cells := Dot.cells) (c := 2) hA (fun _ => rfl) (by decide) k hlt
      obtain ⟨blk2, o2, rfl, hblk2, hcell2⟩ := ARow.at (cells := Dot.cells) (c := 2) hA2 (fun _ => rfl) (by decide) k hlt
      have a0 := hcell 0 _ rfl
      have a1 := hcell 1 _ rfl
      have b0 := hcell2 0 _ rfl
      have b1 := hcell2 1 _ rfl
      simp only [Nat.add_zero] at a0 b0
      generalize xs[k] = d at a0 a1 b0 b1
      have n0 : ((d.a : Int) != d.a) = false := by simp
      go_wp2
      go_quiet (fail)
      go_wp2
      go_roundw
      case rel => exact ⟨k + 1, n + nq, by omega, by go_num, rfl⟩
      case measure => simp [intOf]; omega
    · have hge : ¬ ((k : Int) < xs.length) := by omega
      go_wp2
      go_ret
      exact ⟨rfl, (Fr.refl _ _ _).drewN n⟩
def Ck.aM : List Dot := [⟨1, 2⟩, ⟨5, 1⟩, ⟨7, 3⟩]
def Ck.aC : List Dot := [⟨1, 2⟩, ⟨300, 1⟩]
def Ck.aT : ByteArray := ⟨#[48, 50, 48, 49, 48, 50, 97, 99, 48, 50, 48, 49]⟩
theorem awake_p : parseC Ck.aT.data.toList = (Ck.aC, 0) := by decide +kernel
theorem awake_t : hexB (clkB Ck.aC) = Ck.aT.data.toList := by decide +kernel
theorem awake_m : normL ([⟨1, 2⟩, ⟨5, 1⟩] ++ [⟨1, 1⟩, ⟨7, 3⟩]) = Ck.aM := by decide +kernel
theorem awake_parse (w : World) : Calls Try.prog 18 #[.string ⟨#[48, 50, 48, 49, 48, 50, 97, 99, 48, 50, 48, 49]⟩] w fun e w' => (∃ v, e = .returned (.tuple #[v, .int .i64 0]) ∧ ClkIn w' v Ck.aC) ∧ Fr w.heap.size [] w w' := by
  have := parseC_any w Ck.aT (by decide)
  rw [awake_p] at this
  exact this.mono fun e w' ⟨⟨v, h1, h2⟩, h3⟩ => ⟨⟨v, h1, clkIn_own h2⟩, h3⟩
theorem aC_ok : ∀ d ∈ Ck.aC, d.ok := by
  intro d hd
  simp only [Ck.aC, List.mem_cons, List.not_mem_nil, or_false] at hd
  rcases hd with rfl | rfl <;> exact ⟨by decide, by decide⟩
theorem awake_text (w : World) (v : Value) (h : ClkIn w v Ck.aC) : Calls Try.prog 21 #[v] w fun e w' => e = .returned (.string ⟨#[48, 50, 48, 49, 48, 50, 97, 99, 48, 50, 48, 49]⟩) ∧ Fr w.heap.size [] w w' := by
  have := text_any w v Ck.aC Ck.aC (by decide) aC_ok h (by have := canon_norm Ck.aC; rwa [show normL Ck.aC = Ck.aC by decide +kernel] at this) (Nat.le_refl _)
  rw [awake_t] at this
  exact this
theorem awake_next (w : World) (v : Value) (h : ClkIn w v Ck.aM) : Calls Try.prog 22 #[v, .int .u64 9] w fun e w' => e = .returned (.agg #[.int .u64 9, .int .u64 1]) ∧ Fr w.heap.size [] w w' := by
  have := next_any w v Ck.aM 9 (by decide) h (by decide +kernel)
  rw [show nextN Ck.aM 9 = ⟨9, 1⟩ by decide +kernel] at this
  exact this
theorem awake_merge (w : World) (u v : Value) (hu : ClkIn w u [⟨1, 2⟩, ⟨5, 1⟩]) (hv : ClkIn w v [⟨1, 1⟩, ⟨7, 3⟩]) :
    Calls Try.prog 12 #[.slice (some ⟨w.heap.size, 0, none⟩) 2 2] (w.alloc (.cells #[u, v] 23)) fun e w' => (∃ A c, e = .returned (.slice A 3 c) ∧ ClkIn w' (.slice A 3 c) Ck.aM) ∧ Fr w.heap.size [] w w' := by
  have := merge2_is w u v _ _ (by simp) hu hv
  rw [awake_m] at this
  exact this.mono fun e w' ⟨⟨v, h1, h2⟩, h3⟩ => by
    have h4 := clkIn_own h2
    obtain ⟨A, c, rfl⟩ := own_len1 h2
    exact ⟨⟨A, c, h1, h4⟩, h3⟩
theorem clkIn_new (w : World) (ds : List Dot) (n c : Nat) (hn : n = ds.length) : ClkIn (w.alloc (.cells (ds.flatMap Dot.cells).toArray 27)) (.slice (some ⟨w.heap.size, 0, none⟩) n c) ds := by
  subst hn
  exact ⟨_, _, rfl, .inr ⟨w.heap.size, 0, rfl, by simp, fun j u hu => by rw [Nat.zero_add]; exact ((Has.new w 27 _).cell j).trans hu⟩⟩
set_option maxHeartbeats 2000000 in
set_option maxRecDepth 100000 in
theorem awake06_any (w : World) : Calls Try.prog 10 #[] w fun e w' => e = .returned (.bool true) ∧ Fr w.heap.size [] w w' := by
  have i1 := clkIn_alloc (clkIn_new w [⟨1, 2⟩, ⟨5, 1⟩] 2 2 rfl) (.cells #[.int .u64 1, .int .u64 1, .int .u64 7, .int .u64 3] 27)
  have i2 := clkIn_new (w.alloc (.cells #[.int .u64 1, .int .u64 2, .int .u64 5, .int .u64 1] 27)) [⟨1, 1⟩, ⟨7, 3⟩] 2 2 rfl
  rw [World.size_alloc] at i2
  have hF := ((Fr.refl w.heap.size [] w).alloc (Nat.le_refl _) (.cells #[.int .u64 1, .int .u64 2, .int .u64 5, .int .u64 1] 27)).alloc (by simp) (.cells #[.int .u64 1, .int .u64 1, .int .u64 7, .int .u64 3] 27)
  have hm := awake_merge _ _ _ i1 i2
  simp only [World.size_alloc] at hm
  go_enter Try.func10, Try.ntmps10
  go_upto_region 3 with (first
    | (go_at_call 18; (refine (awake_parse w1).mono ?_); rintro e w2 ⟨⟨v2, rfl, g2⟩, f2⟩)
    | (go_at_call 12; (refine hm.mono ?_); rintro e w1 ⟨⟨A1, c1, rfl, g1⟩, f1⟩))
  have k1 := clkIn_fr g1 f2
  obtain ⟨A', c', hA', hr⟩ := k1
  obtain ⟨rfl, rfl⟩ : A1 = A' ∧ c1 = c' := by injection hA' with q1 _ q3; exact ⟨q1, q3⟩
  obtain ⟨blk, o, rfl, hblk, hcell⟩ := ARow.at (cells := Dot.cells) (c := 2) hr (fun _ => rfl) (by decide) 0 (by decide)
  obtain ⟨blk', o', hb', -, hcell'⟩ := ARow.at (cells := Dot.cells) (c := 2) hr (fun _ => rfl) (by decide) 2 (by decide)
  injection hb' with hb'
  injection hb' with hb1 hb2
  subst hb1 hb2
  have q0 : w2.cell? ⟨blk, o + 1, none⟩ = some (.int .u64 2) := hcell 1 _ rfl
  have q1 : w2.cell? ⟨blk, o + 4, none⟩ = some (.int .u64 7) := hcell' 0 _ rfl
  have k1 := clkIn_fr g1 f2
  clear hcell hcell' hr hA' hm i1 i2
  have hF1 : Fr w.heap.size [] w w1 := hF.trans (f1.mono (by omega) (by simp))
  have hF2 := hF1.trans (f2.mono hF1.size (by simp))
  go_wp2_with (first
    | (go_at_call 22; (refine (awake_next w6 _ (clkIn_fr (clkIn_fr (clkIn_fr (clkIn_fr k1 f3) f4) f5) f6)).mono ?_); rintro e w7 ⟨rfl, f7⟩)
    | (go_at_call 15; (refine (compare_is w5 _ _ Ck.aC Ck.aM 2 (by decide +kernel) (by decide) (by decide) (clkIn_fr (clkIn_fr (clkIn_fr g2 f3) f4) f5) (clkIn_fr (clkIn_fr (clkIn_fr k1 f3) f4) f5)).mono ?_); rintro e w6 ⟨rfl, f6⟩)
    | (go_at_call 14; (refine (covers_is w4 _ Ck.aC ⟨300, 2⟩ false (by decide +kernel) (by decide) (clkIn_fr (clkIn_fr g2 f3) f4)).mono ?_); rintro e w5 ⟨rfl, f5⟩)
    | (go_at_call 14; (refine (covers_is w3 _ Ck.aC ⟨300, 1⟩ true (by decide +kernel) (by decide) (clkIn_fr g2 f3)).mono ?_); rintro e w4 ⟨rfl, f4⟩)
    | (go_at_call 21; (refine (awake_text w2 _ g2).mono ?_); rintro e w3 ⟨rfl, f3⟩))
  go_ret
  have z2 := hF2.size
  have z3 := f3.size
  have z4 := f4.size
  have z5 := f5.size
  have z6 := f6.size
  exact ⟨rfl, ((((hF2.trans (f3.mono z2 (by simp))).trans (f4.mono (by omega) (by simp))).trans (f5.mono (by omega) (by simp))).trans (f6.mono (by omega) (by simp))).trans (f7.mono (by omega) (by simp))⟩
end Go.Proofs.Ytaglginhaofgeaa
