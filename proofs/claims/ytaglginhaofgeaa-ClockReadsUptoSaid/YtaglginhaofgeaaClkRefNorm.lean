/- The reference: Norm, Two. -/
import Derived.Test.YtaglginhaofgeaaClkRef
import Derived.Test.YtaglginhaofgeaaAppRow
namespace Go.Proofs.Ytaglginhaofgeaa
open Go.RowKit Go.Shelf
open Ck Pk
theorem own_slice {w : World} {base e size n : Nat} {v : Value} {xs : List Value} (h : w.ownsRow base e size v n xs) : ∃ A c, v = .slice A n c ∧ n ≤ c ∧ c ≤ 9223372036854775807 ∧ ARow w w.heap.size A xs := by
  obtain ⟨A, c, rfl, hr⟩ := own_arow h
  refine ⟨A, c, rfl, ?_, ?_, hr⟩
  · rcases h.2 with ⟨h1, h2⟩ | ⟨gb, cap, cur, h1, _, _, hc, _⟩
    · injection h1 with _ q1 q2; omega
    · injection h1 with _ _ q2; omega
  · rcases h.2 with ⟨h1, h2⟩ | ⟨gb, cap, cur, h1, _, _, hc, hm, _⟩
    · injection h1 with _ q1 q2; omega
    · injection h1 with _ _ q2
      unfold maxLen at hm
      omega
theorem elemClock : Try.prog.underlying 23 = some (.slice (Try.prog.elem 23)) := by kernel_rfl
theorem elemClock2 : Try.prog.elem 23 = 27 := by kernel_rfl
/-- The value x[l:h] of a slice of dots. -/
def Ck.cutA (A : Option Addr) (l m : Nat) : Option Addr := if m = l then A else A.map (·.add (l * 2))
theorem slice_hi (A : Option Addr) (n cap j : Nat) (hj : j ≤ n) (hn : n ≤ cap) (W : World) :
    (Instr.slice 23 (.slice A n cap) none (some (.int .i64 (j : Int))) none).run Try.prog W = .ok (.slice (cutA A 0 cap) j cap) W := by
  rw [run_slice_h (P := Try.prog) W 23 A n cap elemClock .i64 (j : Int) (by omega) (by omega), elemClock2, Try.sizeOf27]
  simp [Result.andThen, sliced, cutA]
theorem slice_lo (A : Option Addr) (n cap j : Nat) (hj : j ≤ n) (W : World) :
    (Instr.slice 23 (.slice A n cap) (some (.int .i64 (j : Int))) none none).run Try.prog W = .ok (.slice (cutA A j cap) (n - j) (cap - j)) W := by
  rw [run_slice_l (P := Try.prog) W 23 A n cap elemClock .i64 (j : Int) (by omega) (by omega), elemClock2, Try.sizeOf27]
  simp [Result.andThen, sliced, cutA]
theorem wpList_hi {w : World} {ops : Array Oper} {rest : List Oper} {o : Oper} {a : Act} {Q : Exit → Act → World → Prop} (hgd : o.guard = none) (x y : Operand) (ho : o.op = .slice 23 x none (some y) none)
    (A : Option Addr) (n cap j : Nat) (hx : a.eval x = .slice A n cap) (hy : a.eval y = .int .i64 (j : Int)) (hj : j ≤ n) (hn : n ≤ cap) (h : wpList Try.prog ops Q rest (a.put o.dst (.slice (cutA A 0 cap) j cap)) w) : wpList Try.prog ops Q (o :: rest) a w :=
  wpList_plain hgd fun K hK => by
    have hrun := slice_hi A n cap j hj hn w
    unfold Oper.wp execOp
    simp only [ho, hx, hy, Option.map_some, Option.map_none, run_sliceAt_slice (P := Try.prog) w 23 _ _ _ _ elemClock, hrun, Sem.run_bind, Sem.run_pure, Result.andThen_ok]
    exact hK _ _ h
theorem wpList_lo {w : World} {ops : Array Oper} {rest : List Oper} {o : Oper} {a : Act} {Q : Exit → Act → World → Prop} (hgd : o.guard = none) (x y : Operand) (ho : o.op = .slice 23 x (some y) none none)
    (A : Option Addr) (n cap j : Nat) (hx : a.eval x = .slice A n cap) (hy : a.eval y = .int .i64 (j : Int)) (hj : j ≤ n) (h : wpList Try.prog ops Q rest (a.put o.dst (.slice (cutA A j cap) (n - j) (cap - j))) w) : wpList Try.prog ops Q (o :: rest) a w :=
  wpList_plain hgd fun K hK => by
    have hrun := slice_lo A n cap j hj w
    unfold Oper.wp execOp
    simp only [ho, hx, hy, Option.map_some, Option.map_none, run_sliceAt_slice (P := Try.prog) w 23 _ _ _ _ elemClock, hrun, Sem.run_bind, Sem.run_pure, Result.andThen_ok]
    exact hK _ _ h
theorem cutA_row {w : World} {N : Nat} {A : Option Addr} {l : List Dot} (h : ARow w N A (l.flatMap Dot.cells)) (a b m : Nat) (hab : a + b ≤ l.length) (hm : m = a → b = 0) : ARow w N (cutA A a m) (((l.drop a).take b).flatMap Dot.cells) := by
  by_cases hb : b = 0
  · subst hb; exact .inl (by simp)
  · rcases h with h | ⟨blk, o, rfl, hN, hc⟩
    · have := congrArg List.length h
      rw [flatD_len, List.length_nil] at this
      omega
    · refine .inr ⟨blk, o + a * 2, ?_, hN, fun j v hv => ?_⟩
      · unfold cutA
        rw [if_neg (fun e => hb (hm e))]
        simp [Addr.add_mid]
      · rw [Nat.add_assoc]
        refine hc _ v ?_
        rw [← flatD_take, ← flatD_drop, List.getElem?_take] at hv
        split at hv
        · rwa [List.getElem?_drop] at hv
        · cases hv
namespace Ck
def mapN (ds : List Dot) (d : Dot) : Dot := ⟨d.a, getN ds d.a⟩
def outR (ds : List Dot) (k : Nat) : List Dot := normL ((ds.take k).map (mapN ds))
theorem outR_succ (ds : List Dot) (k : Nat) (h : k < ds.length) : outR ds (k + 1) = stepL (outR ds k) (mapN ds ds[k]) := by
  unfold outR
  rw [List.take_succ_eq_append_getElem h, List.map_append, List.map_singleton, normL_snoc]
theorem getN_map (ds l : List Dot) (a : Nat) : getN (l.map (mapN ds)) a = 0 ∨ getN (l.map (mapN ds)) a = getN ds a := by
  rcases getN_ex (l.map (mapN ds)) a with h | ⟨y, hy, h1, h2⟩
  · exact .inl h
  · obtain ⟨d, _, rfl⟩ := List.mem_map.1 hy
    exact .inr (by rw [← h2, ← h1]; rfl)
theorem outR_n (ds : List Dot) (k : Nat) {x : Dot} (h : x ∈ outR ds k) : x.n = getN ds x.a := by
  have h1 := (canon_norm ((ds.take k).map (mapN ds))).says x h
  rcases getN_map ds (ds.take k) x.a with h2 | h2 <;> omega
theorem outR_all (ds : List Dot) : outR ds ds.length = normL ds := by
  unfold outR
  rw [List.take_length]
  refine normL_ext fun a => ?_
  rcases getN_ex ds a with h | ⟨d, hd, h1, h2⟩
  · rcases getN_map ds ds a with h2 | h2 <;> omega
  · have h3 : mapN ds d ∈ ds.map (mapN ds) := List.mem_map_of_mem hd
    have h4 := getN_ge h3
    have h5 : (mapN ds d).a = a := h1
    have h6 : (mapN ds d).n = getN ds a := by unfold mapN; rw [h1]
    rw [h5] at h4
    rcases getN_map ds ds a with h7 | h7 <;> omega
theorem outR_len (ds : List Dot) (k : Nat) : (outR ds k).length ≤ k := by
  have h := normL_len ((ds.take k).map (mapN ds))
  rw [List.length_map, List.length_take] at h
  unfold outR
  omega
theorem insL_ins : ∀ {l : List Dot} {d : Dot} {j : Nat}, j ≤ l.length → (∀ i (h : i < l.length), i < j → l[i].a < d.a) → (∀ h : j < l.length, d.a < l[j].a) → insL l d = l.take j ++ d :: l.drop j
  | [], d, j, hj, _, _ => by
    obtain rfl : j = 0 := by simpa using hj
    rfl
  | x :: r, d, 0, _, _, hg => by
    have := hg (by simp)
    simp only [List.getElem_cons_zero] at this
    unfold insL
    rw [if_neg (by omega), if_neg (by omega)]
    rfl
  | x :: r, d, j + 1, hj, hl, hg => by
    have h0 := hl 0 (by simp) (by omega)
    simp only [List.getElem_cons_zero] at h0
    unfold insL
    rw [if_pos h0, insL_ins (l := r) (d := d) (j := j) (by simpa using hj) (fun i h hi => by have := hl (i + 1) (by simpa using h) (by omega); simpa using this) (fun h => by have := hg (by simpa using h); simpa using this)]
    rfl
theorem insL_same : ∀ {l : List Dot} {d : Dot} {j : Nat} (hj : j < l.length), (∀ i (h : i < l.length), i < j → l[i].a < d.a) → l[j] = d → insL l d = l
  | [], d, j, hj, _, _ => by simp at hj
  | x :: r, d, 0, _, _, hg => by
    simp only [List.getElem_cons_zero] at hg
    subst hg
    unfold insL
    rw [if_neg (by omega), if_pos rfl, Nat.max_self]
  | x :: r, d, j + 1, hj, hl, hg => by
    have h0 := hl 0 (by simp) (by omega)
    simp only [List.getElem_cons_zero] at h0
    unfold insL
    rw [if_pos h0, insL_same (l := r) (d := d) (j := j) (by simpa using hj) (fun i h hi => by have := hl (i + 1) (by simpa using h) (by omega); simpa using this) (by simpa using hg)]
end Ck
theorem ins_own {w : World} {base j : Nat} {v : Value} {L : List Dot} {d : Dot} (hj : j ≤ L.length) (h : w.ownsRow base 27 2 v (0 + j + 1 + (L.length - j)) ([] ++ (L.take j).flatMap Dot.cells ++ [.int .u64 (d.a : Int), .int .u64 (d.n : Int)] ++ (L.drop j).flatMap Dot.cells)) :
    w.ownsRow base 27 2 v (L.take j ++ d :: L.drop j).length ((L.take j ++ d :: L.drop j).flatMap Dot.cells) := by
  have e1 : (L.take j ++ d :: L.drop j).length = 0 + j + 1 + (L.length - j) := by
    rw [List.length_append, List.length_take, List.length_cons, List.length_drop]; omega
  rw [e1, List.flatMap_append, List.flatMap_cons]
  rw [List.nil_append, List.append_assoc] at h
  exact h
theorem ins_ownE {w : World} {base : Nat} {v : Value} {L : List Dot} {d : Dot} (h : w.ownsRow base 27 2 v (0 + L.length + 1 + 0) ([] ++ (L.take L.length).flatMap Dot.cells ++ [.int .u64 (d.a : Int), .int .u64 (d.n : Int)] ++ (L.drop L.length).flatMap Dot.cells)) :
    w.ownsRow base 27 2 v (L.take L.length ++ d :: L.drop L.length).length ((L.take L.length ++ d :: L.drop L.length).flatMap Dot.cells) :=
  ins_own (Nat.le_refl _) (by rwa [Nat.sub_self])
set_option maxHeartbeats 4000000 in
set_option maxRecDepth 100000 in
theorem rNorm_any (w : World) (v : Value) (ds : List Dot) (hds : ds.length ≤ 100000000) (hI : ClkIn w v ds) :
    Calls Try.prog 25 #[v] w fun e w' => Made w e w' (normL ds) := by
  obtain ⟨A, c, rfl, hA⟩ := id hI
  obtain ⟨i0, hi, hz0, hz1, hz2⟩ := info_parts infoDot
  obtain ⟨R, hR⟩ : ∃ R, Hid (outR ds = R) := ⟨_, rfl⟩
  go_enter Try.func25, Try.ntmps25
  go_wp2
  go_loopw [3, 4] (fun v i wr => ∃ k : Nat, k ≤ ds.length ∧ i = .int .i64 (k : Int) ∧ wr.ownsRow w.heap.size 27 2 v (R k).length ((R k).flatMap Dot.cells) ∧ Fr w.heap.size [] w wr) (fun _ i _ => ds.length - (intOf i).toNat)
  case atStart => exact ⟨0, Nat.zero_le _, rfl, by rw [← hR.out]; exact World.ownsRow_nil _ _ _ _, Fr.refl _ _ _⟩
  case round =>
    obtain ⟨k, hk, rfl, hown, hF⟩ := hrel
    have hIr := clkIn_fr hI hF
    have hAr := (hA.fr hF (Nat.le_refl _) (by simp)).mono hF.size
    obtain ⟨A3, c3, rfl, hlc, hc3, hr3⟩ := own_slice hown
    by_cases hlt : k < ds.length
    · obtain ⟨blk, o, rfl, hblk, hcell⟩ := ARow.at (cells := Dot.cells) (c := 2) hAr (fun _ => rfl) (by decide) k hlt
      have a0 := hcell 0 _ rfl
      simp only [Nat.add_zero] at a0
      have hsu := outR_succ ds k hlt
      have hen := outR_len ds k
      have hns := fun x (h : x ∈ outR ds k) => outR_n ds k h
      rw [hR.out] at hsu hen hns
      obtain ⟨d, hd⟩ : ∃ d, ds[k] = d := ⟨_, rfl⟩
      rw [hd] at a0 hsu
      obtain ⟨n, hn⟩ : ∃ n, getN ds d.a = n := ⟨_, rfl⟩
      have hget := rGet_is wr _ ds d.a n hn (by omega) hIr
      have hmn : mapN ds d = ⟨d.a, n⟩ := by unfold mapN; rw [hn]
      rw [hmn] at hsu
      obtain ⟨L, hL⟩ : ∃ L, R k = L := ⟨_, rfl⟩
      rw [hL] at hown hlc hr3 hsu hen hns ⊢
      have HSU := Lib.hid hsu
      have HNS : Hid (∀ x, x ∈ L → x.n = getN ds x.a) := Lib.hid hns
      have HN := Lib.hid hn
      clear hsu hmn hn hd hcell hL hns
      go_upto_region 7 with (go_at_call 27; (with_reducible refine (hget.mono fun _ _ ⟨h1, h2⟩ => (⟨h1, h2.symm⟩ : _ ∧ _)).mono ?_); rintro e w1 ⟨rfl, rfl⟩)
      go_wp2
      go_loop [7] (fun t => ∃ j : Nat, j ≤ L.length ∧ t = .int .i64 (j : Int) ∧ Hid (∀ i (h : i < L.length), i < j → L[i].a < d.a)) (fun t => L.length - (intOf t).toNat)
      case atStart => exact ⟨0, Nat.zero_le _, rfl, Lib.hid (fun i h hi => by omega)⟩
      case round =>
        obtain ⟨j, hj, rfl, HB⟩ := hrel
        by_cases hjl : j < L.length
        · obtain ⟨blk3, o3, rfl, hblk3, hcell3⟩ := ARow.at (cells := Dot.cells) (c := 2) hr3 (fun _ => rfl) (by decide) j hjl
          have b0 := hcell3 0 _ rfl
          simp only [Nat.add_zero] at b0
          have hjn := HNS.out L[j] (List.getElem_mem hjl)
          obtain ⟨x, hx⟩ : ∃ x, L[j] = x := ⟨_, rfl⟩
          rw [hx] at b0 hjn
          have HX : Hid (L[j] = x) := Lib.hid hx
          have HJN := Lib.hid hjn
          clear hx hjn hcell3
          have s0 : decide (j < L.length) = true := by simp; exact hjl
          by_cases hc : x.a < d.a
          · have s1 : decide (x.a < d.a) = true := by simp; exact hc
            go_wp2
            go_round
            case rel =>
              refine ⟨j + 1, by omega, by go_num, Lib.hid fun i h hi => ?_⟩
              rcases Nat.lt_or_ge i j with h1 | h1
              · exact HB.out i h h1
              · obtain rfl : i = j := by omega
                rw [HX.out]; exact hc
            case measure => simp [intOf]; omega
          · have s1 : decide (x.a < d.a) = false := by simp; omega
            by_cases hn0 : n = 0
            · subst hn0
              have hst : Hid (R (k + 1) = L) := Lib.hid (by rw [HSU.out]; unfold stepL; rw [if_pos rfl])
              go_wp2
              go_roundw
              case rel => exact ⟨k + 1, by omega, by go_num, by rw [hst.out]; exact hown, hF⟩
              case measure => simp [intOf]; omega
            · have s2 : ((n : Int) == 0) = false := by rw [beq_eq_false_iff_ne]; omega
              have s2' : (n == 0) = false := by rw [beq_eq_false_iff_ne]; exact hn0
              by_cases hxa : x.a = d.a
              · have s3 : ((x.a : Int) == (d.a : Int)) = true := by rw [beq_iff_eq]; omega
                have s3' : (x.a == d.a) = true := by rw [beq_iff_eq]; exact hxa
                have hst : Hid (R (k + 1) = L) := Lib.hid (by
                  rw [HSU.out]; unfold stepL
                  rw [if_neg hn0]
                  refine insL_same hjl (fun i h hi => HB.out i h hi) ?_
                  rw [HX.out]
                  have : x.n = n := by rw [HJN.out, hxa, HN.out]
                  cases x; simp only at hxa this; rw [hxa, this])
                go_wp2
                go_roundw
                case rel => exact ⟨k + 1, by omega, by go_num, by rw [hst.out]; exact hown, hF⟩
                case measure => simp [intOf]; omega
              · have s3 : ((x.a : Int) == (d.a : Int)) = false := by rw [beq_eq_false_iff_ne]; omega
                have s3' : (x.a == d.a) = false := by rw [beq_eq_false_iff_ne]; exact hxa
                have hst : Hid (R (k + 1) = L.take j ++ ⟨d.a, n⟩ :: L.drop j) := Lib.hid (by
                  rw [HSU.out]; unfold stepL
                  rw [if_neg hn0]
                  exact insL_ins hj (fun i h hi => HB.out i h hi) (fun h => by rw [HX.out]; show d.a < x.a; omega))
                have hb2 : ¬ (c3 = 0) := by omega
                have hb4 : ¬ (c3 = j) := by omega
                have hb5 : (j : Int) ≤ (c3 : Int) := by omega
                have hb6 : (j : Int) ≤ (L.length : Int) := by omega
                have r1 : ARow wr wr.heap.size (some ⟨blk3, o3, none⟩) ((L.take j).flatMap Dot.cells) := by
                  have := cutA_row hr3 0 j c3 (by omega) (by omega)
                  simpa [cutA, hb2, Addr.add_mid] using this
                have r2 : ARow wr wr.heap.size (some ⟨blk3, o3 + j * 2, none⟩) ((L.drop j).flatMap Dot.cells) := by
                  have := cutA_row hr3 j (L.length - j) c3 (by omega) (by omega)
                  rw [List.take_of_length_le (by rw [List.length_drop]; exact Nat.le_refl _)] at this
                  simpa [cutA, hb4, Addr.add_mid] using this
                have hsz := hF.size
                have hk1 : L.length ≤ 100000000 := by omega
                go_wp2_with (first
                  | (at_builtin; refine wpList_append_row (by rfl) (.tmp 66) (.tmp 69) 23 (by rfl) w.heap.size 27 i0 (.agg #[.int .u64 0, .int .u64 0]) 2 16 Try.underlying23 hi hz0 hz1 hz2 rfl (by decide) v2 (0 + j + 1) _ (by rfl) h2 wr.heap.size _ (L.length - j) _ ((L.drop j).flatMap Dot.cells) (by rfl) (r2.fr q2 (Nat.le_refl _) (by simp)) (by rw [flatD_len, List.length_drop]; try simp) (onesD _) (by unfold maxLen; omega) (by omega) (by have := q2.size; omega) ?_; intro v3 w3 h3 g3 o3)
                  | (at_builtin; refine wpList_append_has (by rfl) (.tmp 60) (.tmp 64) 23 (by rfl) w.heap.size 27 i0 (.agg #[.int .u64 0, .int .u64 0]) 2 16 Try.underlying23 hi hz0 hz1 hz2 rfl (by decide) v1 (0 + j) _ (by rfl) (h1.alloc _) w1.heap.size 1 [.int .u64 (d.a : Int), .int .u64 (n : Int)] (by rfl) (Has.new w1 27 _) rfl (ones_dot rfl rfl) (by unfold maxLen; omega) (by omega) (by have := q1.size; simp; omega) ?_; intro v2 w2 h2 g2 o2; have q2 : Fr wr.heap.size [] wr w2 := (q1.alloc q1.size _).grown g2 (by have := q1.size; simp; omega) (fun b hb => .inr (by rcases o1 with o1 | o1 <;> rw [o1] at hb <;> simp [Value.ownBlock] at hb <;> omega)))
                  | (at_builtin; refine wpList_append_row (by rfl) (.tmp 55) (.tmp 58) 23 (by rfl) w.heap.size 27 i0 (.agg #[.int .u64 0, .int .u64 0]) 2 16 Try.underlying23 hi hz0 hz1 hz2 rfl (by decide) (.slice none 0 0) 0 [] (by rfl) (World.ownsRow_nil _ _ _ _) wr.heap.size _ j _ ((L.take j).flatMap Dot.cells) (by rfl) r1 (by rw [flatD_len, List.length_take, Nat.min_eq_left (by omega)]) (onesD _) (by unfold maxLen; omega) (by omega) hsz ?_; intro v1 w1 h1 g1 o1; have q1 : Fr wr.heap.size [] wr w1 := (Fr.refl _ _ _).grown g1 (Nat.le_refl _) (by simp [Value.ownBlock])))
                have q3 : Fr wr.heap.size [] wr w3 := q2.grown g3 q2.size (fun b hb => .inr (by rcases o2 with o2 | o2 <;> rw [o2] at hb <;> first | (rcases o1 with o1 | o1 <;> rw [o1] at hb <;> simp [Value.ownBlock] at hb <;> omega) | (simp at hb; have := q1.size; omega)))
                go_wp2
                go_roundw
                case rel => exact ⟨k + 1, by omega, by go_num, by rw [hst.out]; exact ins_own (by omega) h3, hF.trans (q3.mono hsz (by simp))⟩
                case measure => simp [intOf]; omega
        · obtain rfl : j = L.length := by omega
          have s0 : decide (L.length < L.length) = false := by simp
          by_cases hn0 : n = 0
          · subst hn0
            have hst : Hid (R (k + 1) = L) := Lib.hid (by rw [HSU.out]; unfold stepL; rw [if_pos rfl])
            go_wp2
            go_roundw
            case rel => exact ⟨k + 1, by omega, by go_num, by rw [hst.out]; exact hown, hF⟩
            case measure => simp [intOf]; omega
          · have s2 : ((n : Int) == 0) = false := by rw [beq_eq_false_iff_ne]; omega
            have s2' : (n == 0) = false := by rw [beq_eq_false_iff_ne]; exact hn0
            have hst : Hid (R (k + 1) = L.take L.length ++ ⟨d.a, n⟩ :: L.drop L.length) := Lib.hid (by
              rw [HSU.out]; unfold stepL
              rw [if_neg hn0]
              exact insL_ins (Nat.le_refl _) (fun i h hi => HB.out i h hi) (fun h => by omega))
            have hown2 := hown.2
            by_cases hl0 : L = []
            · subst hl0
              rcases hown2 with ⟨hv, _⟩ | ⟨gb, cap, cur, hv, _⟩
              · injection hv with hv1 hv2 hv3
                subst hv1 hv3
                clear hv2
                have hsz := hF.size
                go_wp2_with (first
                  | (at_builtin; refine wpList_append_row (by rfl) (.tmp 66) (.tmp 69) 23 (by rfl) w.heap.size 27 i0 (.agg #[.int .u64 0, .int .u64 0]) 2 16 Try.underlying23 hi hz0 hz1 hz2 rfl (by decide) v2 (0 + 0 + 1) _ (by rfl) h2 wr.heap.size _ 0 _ ((([] : List Dot).drop 0).flatMap Dot.cells) (by rfl) (.inl rfl) (by rw [flatD_len, List.length_drop]; try simp) (onesD _) (by unfold maxLen; omega) (by omega) (by have := q2.size; omega) ?_; intro v3 w3 h3 g3 o3)
                  | (at_builtin; refine wpList_append_has (by rfl) (.tmp 60) (.tmp 64) 23 (by rfl) w.heap.size 27 i0 (.agg #[.int .u64 0, .int .u64 0]) 2 16 Try.underlying23 hi hz0 hz1 hz2 rfl (by decide) v1 (0 + 0) _ (by rfl) (h1.alloc _) w1.heap.size 1 [.int .u64 (d.a : Int), .int .u64 (n : Int)] (by rfl) (Has.new w1 27 _) rfl (ones_dot rfl rfl) (by unfold maxLen; omega) (by omega) (by have := q1.size; simp; omega) ?_; intro v2 w2 h2 g2 o2; have q2 : Fr wr.heap.size [] wr w2 := (q1.alloc q1.size _).grown g2 (by have := q1.size; simp; omega) (fun b hb => .inr (by rcases o1 with o1 | o1 <;> rw [o1] at hb <;> simp [Value.ownBlock] at hb <;> omega)))
                  | (at_builtin; refine wpList_append_row (by rfl) (.tmp 55) (.tmp 58) 23 (by rfl) w.heap.size 27 i0 (.agg #[.int .u64 0, .int .u64 0]) 2 16 Try.underlying23 hi hz0 hz1 hz2 rfl (by decide) (.slice none 0 0) 0 [] (by rfl) (World.ownsRow_nil _ _ _ _) wr.heap.size _ 0 _ ((([] : List Dot).take 0).flatMap Dot.cells) (by rfl) (.inl rfl) (by rw [flatD_len, List.length_take, Nat.min_eq_left (by omega)]) (onesD _) (by unfold maxLen; omega) (by omega) hsz ?_; intro v1 w1 h1 g1 o1; have q1 : Fr wr.heap.size [] wr w1 := (Fr.refl _ _ _).grown g1 (Nat.le_refl _) (by simp [Value.ownBlock])))
                have q3 : Fr wr.heap.size [] wr w3 := q2.grown g3 q2.size (fun b hb => .inr (by rcases o2 with o2 | o2 <;> rw [o2] at hb <;> first | (rcases o1 with o1 | o1 <;> rw [o1] at hb <;> simp [Value.ownBlock] at hb <;> omega) | (simp at hb; have := q1.size; omega)))
                go_wp2
                go_roundw
                case rel => exact ⟨k + 1, by omega, by go_num, by rw [hst.out]; exact ins_own (L := []) (j := 0) (Nat.le_refl _) h3, hF.trans (q3.mono hsz (by simp))⟩
                case measure => simp [intOf]; omega
              · injection hv with hv1 hv2 hv3
                subst hv1
                clear hv2 hv3
                by_cases hb2 : c3 = 0
                · subst hb2
                  have hsz := hF.size
                  go_wp2_with (first
                    | (at_builtin; refine wpList_append_row (by rfl) (.tmp 66) (.tmp 69) 23 (by rfl) w.heap.size 27 i0 (.agg #[.int .u64 0, .int .u64 0]) 2 16 Try.underlying23 hi hz0 hz1 hz2 rfl (by decide) v2 (0 + 0 + 1) _ (by rfl) h2 wr.heap.size _ 0 _ ((([] : List Dot).drop 0).flatMap Dot.cells) (by rfl) (.inl rfl) (by rw [flatD_len, List.length_drop]; try simp) (onesD _) (by unfold maxLen; omega) (by omega) (by have := q2.size; omega) ?_; intro v3 w3 h3 g3 o3)
                    | (at_builtin; refine wpList_append_has (by rfl) (.tmp 60) (.tmp 64) 23 (by rfl) w.heap.size 27 i0 (.agg #[.int .u64 0, .int .u64 0]) 2 16 Try.underlying23 hi hz0 hz1 hz2 rfl (by decide) v1 (0 + 0) _ (by rfl) (h1.alloc _) w1.heap.size 1 [.int .u64 (d.a : Int), .int .u64 (n : Int)] (by rfl) (Has.new w1 27 _) rfl (ones_dot rfl rfl) (by unfold maxLen; omega) (by omega) (by have := q1.size; simp; omega) ?_; intro v2 w2 h2 g2 o2; have q2 : Fr wr.heap.size [] wr w2 := (q1.alloc q1.size _).grown g2 (by have := q1.size; simp; omega) (fun b hb => .inr (by rcases o1 with o1 | o1 <;> rw [o1] at hb <;> simp [Value.ownBlock] at hb <;> omega)))
                    | (at_builtin; refine wpList_append_row (by rfl) (.tmp 55) (.tmp 58) 23 (by rfl) w.heap.size 27 i0 (.agg #[.int .u64 0, .int .u64 0]) 2 16 Try.underlying23 hi hz0 hz1 hz2 rfl (by decide) (.slice none 0 0) 0 [] (by rfl) (World.ownsRow_nil _ _ _ _) wr.heap.size _ 0 _ ((([] : List Dot).take 0).flatMap Dot.cells) (by rfl) (.inl rfl) (by rw [flatD_len, List.length_take, Nat.min_eq_left (by omega)]) (onesD _) (by unfold maxLen; omega) (by omega) hsz ?_; intro v1 w1 h1 g1 o1; have q1 : Fr wr.heap.size [] wr w1 := (Fr.refl _ _ _).grown g1 (Nat.le_refl _) (by simp [Value.ownBlock])))
                  have q3 : Fr wr.heap.size [] wr w3 := q2.grown g3 q2.size (fun b hb => .inr (by rcases o2 with o2 | o2 <;> rw [o2] at hb <;> first | (rcases o1 with o1 | o1 <;> rw [o1] at hb <;> simp [Value.ownBlock] at hb <;> omega) | (simp at hb; have := q1.size; omega)))
                  go_wp2
                  go_roundw
                  case rel => exact ⟨k + 1, by omega, by go_num, by rw [hst.out]; exact ins_own (L := []) (j := 0) (Nat.le_refl _) h3, hF.trans (q3.mono hsz (by simp))⟩
                  case measure => simp [intOf]; omega
                · have hb3 : ¬ (0 = c3) := fun h => hb2 h.symm
                  have hsz := hF.size
                  go_wp2_with (first
                    | (at_builtin; refine wpList_append_row (by rfl) (.tmp 66) (.tmp 69) 23 (by rfl) w.heap.size 27 i0 (.agg #[.int .u64 0, .int .u64 0]) 2 16 Try.underlying23 hi hz0 hz1 hz2 rfl (by decide) v2 (0 + 0 + 1) _ (by rfl) h2 wr.heap.size _ 0 _ ((([] : List Dot).drop 0).flatMap Dot.cells) (by rfl) (.inl rfl) (by rw [flatD_len, List.length_drop]; try simp) (onesD _) (by unfold maxLen; omega) (by omega) (by have := q2.size; omega) ?_; intro v3 w3 h3 g3 o3)
                    | (at_builtin; refine wpList_append_has (by rfl) (.tmp 60) (.tmp 64) 23 (by rfl) w.heap.size 27 i0 (.agg #[.int .u64 0, .int .u64 0]) 2 16 Try.underlying23 hi hz0 hz1 hz2 rfl (by decide) v1 (0 + 0) _ (by rfl) (h1.alloc _) w1.heap.size 1 [.int .u64 (d.a : Int), .int .u64 (n : Int)] (by rfl) (Has.new w1 27 _) rfl (ones_dot rfl rfl) (by unfold maxLen; omega) (by omega) (by have := q1.size; simp; omega) ?_; intro v2 w2 h2 g2 o2; have q2 : Fr wr.heap.size [] wr w2 := (q1.alloc q1.size _).grown g2 (by have := q1.size; simp; omega) (fun b hb => .inr (by rcases o1 with o1 | o1 <;> rw [o1] at hb <;> simp [Value.ownBlock] at hb <;> omega)))
                    | (at_builtin; refine wpList_append_row (by rfl) (.tmp 55) (.tmp 58) 23 (by rfl) w.heap.size 27 i0 (.agg #[.int .u64 0, .int .u64 0]) 2 16 Try.underlying23 hi hz0 hz1 hz2 rfl (by decide) (.slice none 0 0) 0 [] (by rfl) (World.ownsRow_nil _ _ _ _) wr.heap.size _ 0 _ ((([] : List Dot).take 0).flatMap Dot.cells) (by rfl) (.inl rfl) (by rw [flatD_len, List.length_take, Nat.min_eq_left (by omega)]) (onesD _) (by unfold maxLen; omega) (by omega) hsz ?_; intro v1 w1 h1 g1 o1; have q1 : Fr wr.heap.size [] wr w1 := (Fr.refl _ _ _).grown g1 (Nat.le_refl _) (by simp [Value.ownBlock])))
                  have q3 : Fr wr.heap.size [] wr w3 := q2.grown g3 q2.size (fun b hb => .inr (by rcases o2 with o2 | o2 <;> rw [o2] at hb <;> first | (rcases o1 with o1 | o1 <;> rw [o1] at hb <;> simp [Value.ownBlock] at hb <;> omega) | (simp at hb; have := q1.size; omega)))
                  go_wp2
                  go_roundw
                  case rel => exact ⟨k + 1, by omega, by go_num, by rw [hst.out]; exact ins_own (L := []) (j := 0) (Nat.le_refl _) h3, hF.trans (q3.mono hsz (by simp))⟩
                  case measure => simp [intOf]; omega
            · have hlp : 0 < L.length := List.length_pos_iff.2 hl0
              obtain ⟨blk3, o3, rfl, hblk3, _⟩ := ARow.at (cells := Dot.cells) (c := 2) hr3 (fun _ => rfl) (by decide) 0 hlp
              have hb2 : ¬ (c3 = 0) := by omega
              have hb5 : (L.length : Int) ≤ (c3 : Int) := by omega
              have r1 : ARow wr wr.heap.size (some ⟨blk3, o3, none⟩) ((L.take L.length).flatMap Dot.cells) := by rw [List.take_length]; exact hr3
              by_cases hb4 : c3 = L.length
              · subst hb4
                have hsz := hF.size
                have hk1 : L.length ≤ 100000000 := by omega
                go_wp2_with (first
                  | (at_builtin; refine wpList_append_row (by rfl) (.tmp 66) (.tmp 69) 23 (by rfl) w.heap.size 27 i0 (.agg #[.int .u64 0, .int .u64 0]) 2 16 Try.underlying23 hi hz0 hz1 hz2 rfl (by decide) v2 (0 + L.length + 1) _ (by rfl) h2 wr.heap.size _ 0 _ ((L.drop L.length).flatMap Dot.cells) (by rfl) (.inl (by simp)) (by rw [flatD_len, List.length_drop]; try simp) (onesD _) (by unfold maxLen; omega) (by omega) (by have := q2.size; omega) ?_; intro v3 w3 h3 g3 o3)
                  | (at_builtin; refine wpList_append_has (by rfl) (.tmp 60) (.tmp 64) 23 (by rfl) w.heap.size 27 i0 (.agg #[.int .u64 0, .int .u64 0]) 2 16 Try.underlying23 hi hz0 hz1 hz2 rfl (by decide) v1 (0 + L.length) _ (by rfl) (h1.alloc _) w1.heap.size 1 [.int .u64 (d.a : Int), .int .u64 (n : Int)] (by rfl) (Has.new w1 27 _) rfl (ones_dot rfl rfl) (by unfold maxLen; omega) (by omega) (by have := q1.size; simp; omega) ?_; intro v2 w2 h2 g2 o2; have q2 : Fr wr.heap.size [] wr w2 := (q1.alloc q1.size _).grown g2 (by have := q1.size; simp; omega) (fun b hb => .inr (by rcases o1 with o1 | o1 <;> rw [o1] at hb <;> simp [Value.ownBlock] at hb <;> omega)))
                  | (at_builtin; refine wpList_append_row (by rfl) (.tmp 55) (.tmp 58) 23 (by rfl) w.heap.size 27 i0 (.agg #[.int .u64 0, .int .u64 0]) 2 16 Try.underlying23 hi hz0 hz1 hz2 rfl (by decide) (.slice none 0 0) 0 [] (by rfl) (World.ownsRow_nil _ _ _ _) wr.heap.size _ L.length _ ((L.take L.length).flatMap Dot.cells) (by rfl) r1 (by rw [flatD_len, List.length_take, Nat.min_eq_left (by omega)]) (onesD _) (by unfold maxLen; omega) (by omega) hsz ?_; intro v1 w1 h1 g1 o1; have q1 : Fr wr.heap.size [] wr w1 := (Fr.refl _ _ _).grown g1 (Nat.le_refl _) (by simp [Value.ownBlock])))
                have q3 : Fr wr.heap.size [] wr w3 := q2.grown g3 q2.size (fun b hb => .inr (by rcases o2 with o2 | o2 <;> rw [o2] at hb <;> first | (rcases o1 with o1 | o1 <;> rw [o1] at hb <;> simp [Value.ownBlock] at hb <;> omega) | (simp at hb; have := q1.size; omega)))
                go_wp2
                go_roundw
                case rel => exact ⟨k + 1, by omega, by go_num, by rw [hst.out]; exact ins_ownE h3, hF.trans (q3.mono hsz (by simp))⟩
                case measure => simp [intOf]; omega
              · have hb6 : ¬ (L.length = c3) := fun h => hb4 h.symm
                have hsz := hF.size
                have hk1 : L.length ≤ 100000000 := by omega
                go_wp2_with (first
                  | (at_builtin; refine wpList_append_row (by rfl) (.tmp 66) (.tmp 69) 23 (by rfl) w.heap.size 27 i0 (.agg #[.int .u64 0, .int .u64 0]) 2 16 Try.underlying23 hi hz0 hz1 hz2 rfl (by decide) v2 (0 + L.length + 1) _ (by rfl) h2 wr.heap.size _ 0 _ ((L.drop L.length).flatMap Dot.cells) (by rfl) (.inl (by simp)) (by rw [flatD_len, List.length_drop]; try simp) (onesD _) (by unfold maxLen; omega) (by omega) (by have := q2.size; omega) ?_; intro v3 w3 h3 g3 o3)
                  | (at_builtin; refine wpList_append_has (by rfl) (.tmp 60) (.tmp 64) 23 (by rfl) w.heap.size 27 i0 (.agg #[.int .u64 0, .int .u64 0]) 2 16 Try.underlying23 hi hz0 hz1 hz2 rfl (by decide) v1 (0 + L.length) _ (by rfl) (h1.alloc _) w1.heap.size 1 [.int .u64 (d.a : Int), .int .u64 (n : Int)] (by rfl) (Has.new w1 27 _) rfl (ones_dot rfl rfl) (by unfold maxLen; omega) (by omega) (by have := q1.size; simp; omega) ?_; intro v2 w2 h2 g2 o2; have q2 : Fr wr.heap.size [] wr w2 := (q1.alloc q1.size _).grown g2 (by have := q1.size; simp; omega) (fun b hb => .inr (by rcases o1 with o1 | o1 <;> rw [o1] at hb <;> simp [Value.ownBlock] at hb <;> omega)))
                  | (at_builtin; refine wpList_append_row (by rfl) (.tmp 55) (.tmp 58) 23 (by rfl) w.heap.size 27 i0 (.agg #[.int .u64 0, .int .u64 0]) 2 16 Try.underlying23 hi hz0 hz1 hz2 rfl (by decide) (.slice none 0 0) 0 [] (by rfl) (World.ownsRow_nil _ _ _ _) wr.heap.size _ L.length _ ((L.take L.length).flatMap Dot.cells) (by rfl) r1 (by rw [flatD_len, List.length_take, Nat.min_eq_left (by omega)]) (onesD _) (by unfold maxLen; omega) (by omega) hsz ?_; intro v1 w1 h1 g1 o1; have q1 : Fr wr.heap.size [] wr w1 := (Fr.refl _ _ _).grown g1 (Nat.le_refl _) (by simp [Value.ownBlock])))
                have q3 : Fr wr.heap.size [] wr w3 := q2.grown g3 q2.size (fun b hb => .inr (by rcases o2 with o2 | o2 <;> rw [o2] at hb <;> first | (rcases o1 with o1 | o1 <;> rw [o1] at hb <;> simp [Value.ownBlock] at hb <;> omega) | (simp at hb; have := q1.size; omega)))
                go_wp2
                go_roundw
                case rel => exact ⟨k + 1, by omega, by go_num, by rw [hst.out]; exact ins_ownE h3, hF.trans (q3.mono hsz (by simp))⟩
                case measure => simp [intOf]; omega
    · have hge : ¬ ((k : Int) < ds.length) := by omega
      obtain rfl : k = ds.length := by omega
      have hfin := outR_all ds
      rw [hR.out] at hfin
      have HF := Lib.hid hfin
      clear hfin
      go_wp2
      go_ret
      exact ⟨⟨_, rfl, by rw [← HF.out]; exact hown⟩, hF⟩
set_option maxHeartbeats 1000000 in
theorem rTwo_any (w : World) (u v : Value) (xs ys : List Dot) (hx : xs.length + ys.length ≤ 100000000) (hu : ClkIn w u xs) (hv : ClkIn w v ys) :
    Calls Try.prog 26 #[u, v] w fun e w' => Made w e w' (normL (xs ++ ys)) := by
  obtain ⟨A, c, rfl, hA⟩ := id hu
  obtain ⟨A2, c2, rfl, hA2⟩ := id hv
  obtain ⟨i0, hi, hz0, hz1, hz2⟩ := info_parts infoDot
  go_enter Try.func26, Try.ntmps26
  go_wp2_with (first
    | (go_at_call 25; (refine (rNorm_any w2 v2 (xs ++ ys) (by rw [List.length_append]; omega) k2).mono ?_); rintro e w3 ⟨⟨v3, rfl, g3⟩, f3⟩)
    | (at_builtin; refine wpList_append_row (by rfl) (.tmp 9) (.tmp 10) 23 (by rfl) w.heap.size 27 i0 (.agg #[.int .u64 0, .int .u64 0]) 2 16 Try.underlying23 hi hz0 hz1 hz2 rfl (by decide) v1 (0 + xs.length) _ (by rfl) h1 w.heap.size A2 ys.length c2 (ys.flatMap Dot.cells) (by rfl) (hA2.fr q1 (Nat.le_refl _) (by simp)) (flatD_len _) (onesD _) (by unfold maxLen; omega) (by omega) q1.size ?_; intro v2 w2 h2 g2 o2; have q2 : Fr w.heap.size [] w w2 := q1.grown g2 q1.size (fun b hb => .inr (by rcases o1 with o1 | o1 <;> rw [o1] at hb <;> simp [Value.ownBlock] at hb <;> omega)); have k2 : ClkIn w2 v2 (xs ++ ys) := clkIn_own (base := w.heap.size) (by rw [List.length_append, List.flatMap_append]; rw [Nat.zero_add, List.nil_append] at h2; exact h2))
    | (at_builtin; refine wpList_append_row (by rfl) (.tmp 6) (.tmp 7) 23 (by rfl) w.heap.size 27 i0 (.agg #[.int .u64 0, .int .u64 0]) 2 16 Try.underlying23 hi hz0 hz1 hz2 rfl (by decide) (.slice none 0 0) 0 [] (by rfl) (World.ownsRow_nil _ _ _ _) w.heap.size A xs.length c (xs.flatMap Dot.cells) (by rfl) hA (flatD_len _) (onesD _) (by unfold maxLen; omega) (by omega) (Nat.le_refl _) ?_; intro v1 w1 h1 g1 o1; have q1 : Fr w.heap.size [] w w1 := (Fr.refl _ _ _).grown g1 (Nat.le_refl _) (by simp [Value.ownBlock])))
  go_ret
  exact ⟨⟨_, rfl, row_base g3 q2.size⟩, q2.trans (f3.mono q2.size (by simp))⟩
end Go.Proofs.Ytaglginhaofgeaa
