/- FilesNames: the walk. -/
import Derived.Test.YtcfbbembggnanaaFilRef
namespace Go.Proofs.Ytcfbbembggnanaa
open Go.RowKit Go.Maps
theorem ask1 (k : Key) : askE true [k] = if nameB k.1 = true then 0 else 20 := by
  unfold askE
  cases h : nameB k.1 <;> simp [h]
theorem app_new (k : Key) (h : nameB k.1 = true) : appS ⟨100, 0, 0, true, []⟩ k [[120]].flatten = (0, ⟨100, 0, 1, true, [(k, ⟨[120], 0⟩)]⟩) := by
  unfold appS
  rw [if_neg (by simp only [ask1, h]; decide), if_neg (by unfold fullP; simp [getL, usedP])]
  simp [appP, leftE]
theorem app_bad (k : Key) (h : nameB k.1 = false) : appS ⟨100, 0, 0, true, []⟩ k [[120]].flatten = (20, ⟨100, 0, 0, true, []⟩) := by
  unfold appS
  rw [if_pos (by simp only [ask1, h]; decide)]
  simp only [ask1, h]
  rfl
theorem prefK_at (s t : ByteArray) (hs : s.size ≤ maxLen) (ht : t.size ≤ maxLen) : prefK (keyB t ht) (keyB s hs) = prefA s t := by
  unfold prefK keyB
  congr 1
/-- What the last lines of the law want of the list. -/
theorem list_one {w : World} {base : Nat} {v : Value} {k : Key} (h : w.ownsRow base 9 1 v [k].length ([k].map KV)) : ∃ blk o c, v = .slice (some ⟨blk, o, none⟩) 1 c ∧ w.cell? ⟨blk, o, none⟩ = some (KV k) := by
  obtain ⟨A, c, rfl, hA, -⟩ := own_arow h
  obtain ⟨blk, o, rfl, -, h0⟩ := name_of hA 0 (by simp)
  exact ⟨blk, o, c, rfl, h0⟩
set_option maxRecDepth 100000 in
set_option maxHeartbeats 4000000 in
theorem names_law (w : World) (s t : ByteArray) (hs : s.size ≤ maxLen) (ht : t.size ≤ maxLen) : Calls Try.prog 5 #[.string s, .string t] w fun e w' => e = .returned (.bool true) ∧ Fr w.heap.size [] w w' := by
  obtain ⟨k, hk⟩ : ∃ k, k = keyB s hs := ⟨_, rfl⟩
  obtain ⟨p, hp⟩ : ∃ p, p = keyB t ht := ⟨_, rfl⟩
  have hKV : KV k = .string s := by rw [hk]; exact KV_keyB s hs
  have hKP : KV p = .string t := by rw [hp]; exact KV_keyB t ht
  have hpre : prefK p k = prefA s t := by rw [hk, hp]; exact prefK_at s t hs ht
  have cI := fun W => isName_any W k
  simp only [hKV] at cI
  have hss : (s.toList == s.toList) = true := by simp
  have r1 : roomE 100 = 100 := by decide
  have hms : s.size ≤ 9223372036854775807 := hs
  have hmt : t.size ≤ 9223372036854775807 := ht
  clear hk hp
  cases hn : nameB k.1
  · rw [hn] at cI
    have e1 := app_bad k hn
    go_enter Try.func5, Try.ntmps5
    go_upto_region 2 with (go_at_call 9; (with_reducible refine (awake_any w).mono ?_); rintro e w1 ⟨rfl, f1⟩)
    have c2 := fat_new w1 100
    rw [r1] at c2
    go_upto_region 5 with (go_at_call 10; (with_reducible refine c2.mono ?_); rintro e w2 ⟨rfl, h2⟩)
    go_upto_region 6 with (go_at_call 17; (with_reducible refine (cI _).mono ?_); rintro e w3 ⟨rfl, rfl⟩)
    have c3 := fat_append_lit h2 (by decide) (by decide) (by decide) (by decide) k 1 [[120]] (by decide) (by decide) (by decide)
    rw [e1, hKV] at c3
    go_upto_region 7 with (go_at_call 11; (refine c3.mono ?_); rintro e w4 ⟨rfl, h4, -⟩)
    have c4 := fat_list h4 (by decide) p
    rw [hKP] at c4
    clear c2 c3 cI
    go_wp2_with (go_at_call 18; (with_reducible refine c4.mono ?_); rintro e w5 ⟨v, ls, rfl, o5, h5, -, -, hl⟩; obtain ⟨ns, hns, rfl⟩ := hl rfl; obtain rfl : ns = [] := List.perm_nil.1 hns; obtain ⟨A, cp, rfl⟩ := own_slice o5; rw [show ([].filter (prefK p)).length = 0 from rfl])
    go_ret
    exact ⟨rfl, f1.trans (h5.frame.mono f1.size (by simp))⟩
  · rw [hn] at cI
    have e1 := app_new k hn
    go_enter Try.func5, Try.ntmps5
    go_upto_region 2 with (go_at_call 9; (with_reducible refine (awake_any w).mono ?_); rintro e w1 ⟨rfl, f1⟩)
    have c2 := fat_new w1 100
    rw [r1] at c2
    go_upto_region 5 with (go_at_call 10; (with_reducible refine c2.mono ?_); rintro e w2 ⟨rfl, h2⟩)
    go_upto_region 6 with (go_at_call 17; (with_reducible refine (cI _).mono ?_); rintro e w3 ⟨rfl, rfl⟩)
    have c3 := fat_append_lit h2 (by decide) (by decide) (by decide) (by decide) k 1 [[120]] (by decide) (by decide) (by decide)
    rw [e1, hKV] at c3
    go_upto_region 7 with (go_at_call 11; (refine c3.mono ?_); rintro e w4 ⟨rfl, h4, -⟩)
    have c4 := fat_list h4 (by simp) p
    rw [hKP] at c4
    clear c2 c3 cI
    by_cases h : t.size ≤ s.size
    · have hb : decide ((t.size : Int) ≤ (s.size : Int)) = true := by simpa using h
      obtain ⟨b, hbb⟩ : ∃ b, ((s.extract 0 t.size).toList == t.toList) = b := ⟨_, rfl⟩
      have hP : prefA s t = b := by unfold prefA; rw [hbb]; simp [h]
      rw [hP] at hpre
      clear hP
      cases b
      · go_wp2_with (go_at_call 18; (with_reducible refine c4.mono ?_); rintro e w5 ⟨v, ls, rfl, o5, h5, -, -, hl⟩; obtain ⟨ns, hns, rfl⟩ := hl rfl; obtain rfl : ns = [k] := List.perm_singleton.1 hns; rw [show [k].filter (prefK p) = [] by simp [hpre]] at o5; obtain ⟨A, cp, rfl⟩ := own_slice o5; rw [show ([] : List Key).length = 0 from rfl])
        go_ret
        exact ⟨rfl, f1.trans (h5.frame.mono f1.size (by simp))⟩
      · go_wp2_with (go_at_call 18; (with_reducible refine c4.mono ?_); rintro e w5 ⟨v, ls, rfl, o5, h5, -, -, hl⟩; obtain ⟨ns, hns, rfl⟩ := hl rfl; obtain rfl : ns = [k] := List.perm_singleton.1 hns; rw [show [k].filter (prefK p) = [k] by simp [hpre]] at o5; obtain ⟨blk, o, cp, rfl, t0⟩ := list_one o5; rw [hKV] at t0)
        go_ret
        exact ⟨rfl, f1.trans (h5.frame.mono f1.size (by simp))⟩
    · have hb : decide ((t.size : Int) ≤ (s.size : Int)) = false := by simp; omega
      have hP : prefA s t = false := by unfold prefA; simp [h]
      rw [hP] at hpre
      clear hP
      go_wp2_with (go_at_call 18; (with_reducible refine c4.mono ?_); rintro e w5 ⟨v, ls, rfl, o5, h5, -, -, hl⟩; obtain ⟨ns, hns, rfl⟩ := hl rfl; obtain rfl : ns = [k] := List.perm_singleton.1 hns; rw [show [k].filter (prefK p) = [] by simp [hpre]] at o5; obtain ⟨A, cp, rfl⟩ := own_slice o5; rw [show ([] : List Key).length = 0 from rfl])
      go_ret
      exact ⟨rfl, f1.trans (h5.frame.mono f1.size (by simp))⟩
end Go.Proofs.Ytcfbbembggnanaa
