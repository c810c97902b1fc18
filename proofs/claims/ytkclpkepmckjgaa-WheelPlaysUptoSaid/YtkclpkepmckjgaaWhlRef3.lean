/- The reference: Due; same. -/
import Derived.Test.YtkclpkepmckjgaaWhlRef2
namespace Go.Proofs.Ytkclpkepmckjgaa
open Go.RowKit Go.Maps Go.Sort Go.Shelf
open Wh
namespace Wh
def sliceLen : Value → Nat
  | .slice _ n _ => n
  | _ => 0
theorem dueR_le (now : Int) : ∀ (f : Nat) (L : List (Key × Int)), (dueR now f L).length ≤ f
  | 0, _ => by simp [dueR]
  | f + 1, L => by
    rw [dueR]
    split
    · simp
    · split
      · simp only [List.length_cons]
        have := dueR_le now f
        exact Nat.succ_le_succ (this _)
      · simp
theorem dueR_stop {now : Int} {f : Nat} {L : List (Key × Int)} (h : L = [] ∨ now < nextR L) : dueR now f L = [] := by
  cases f with
  | zero => rfl
  | succ f => rw [dueR, if_pos h]
theorem dueR_go {now : Int} {f : Nat} {L : List (Key × Int)} (h : ¬ (L = [] ∨ now < nextR L)) (i : Nat) (hi : i < L.length) (h1 : L[i].2 = nextR L) (h2 : ∀ j (hj : j < L.length), j < i → L[j].2 ≠ nextR L) : dueR now (f + 1) L = L[i].1 :: dueR now f (cut1 L L[i].1) := by
  rw [dueR, if_neg h]
  have : L.find? (fun d => decide (d.2 = nextR L)) = some L[i] := by
    rw [List.find?_eq_some_iff_getElem]
    exact ⟨by simpa using h1, i, hi, rfl, fun j hj => by simpa using h2 j (by omega) hj⟩
  rw [this]
theorem cutV_snoc (R : List (Key × Int)) (out : List Key) (x : Key) : cut1 (cutV R out) x = cutV R (out ++ [x]) := by
  unfold cut1 cutV
  rw [List.filter_filter]
  congr 1
  funext d
  simp [Bool.and_comm]
theorem cutV_nil (R : List (Key × Int)) : cutV R [] = R := by simp [cutV]
end Wh
theorem infoStr : (Try.prog.info? 9).map (fun i => (i.zero, i.size, i.bytes)) = some (some (.string ⟨#[]⟩), 1, 16) := by kernel_rfl
set_option maxRecDepth 100000 in
set_option maxHeartbeats 4000000 in
theorem rdue_any (w : World) (r : Nat) (G : List Nat) (R : List (Key × Int)) (h : RIs w r G R) (hl : R.length ≤ 1000000000) (now : Int) :
    Calls Try.prog 12 #[.pointer (some ⟨r, 0, none⟩), .int .i64 now] w fun e w' => ∃ v G', e = .returned v ∧ w'.ownsRow w.heap.size 9 1 v (dueR now R.length R).length ((dueR now R.length R).map KV) ∧
      RIs w' r G' (cutV R (dueR now R.length R)) ∧ Fr w.heap.size G w w' ∧ ∀ q ∈ G', q ∈ G ∨ w.heap.size ≤ q := by
  obtain ⟨i0, hi, hz0, hz1, hz2⟩ := info_parts infoStr
  have hrl := h.lt r h.self
  have hrG := h.self
  have hdl := dueR_le now R.length R
  obtain ⟨E, hE⟩ : ∃ E, Hid (E = dueR now R.length R) := ⟨_, rfl⟩
  rw [← hE.out] at hdl ⊢
  go_enter Try.func12, Try.ntmps12
  go_wp2
  go_loopw [5] (fun v wr => ∃ (out : List Key) (R' : List (Key × Int)) (G' : List Nat) (f : Nat), wr.ownsRow w.heap.size 9 1 v out.length (out.map KV) ∧ RIs wr r G' R' ∧ Fr w.heap.size G w wr ∧ (∀ q ∈ G', q ∈ G ∨ w.heap.size ≤ q) ∧ (∀ k, v.ownBlock = some k → k ∉ G') ∧
      Hid (out ++ dueR now f R' = E) ∧ R' = cutV R out ∧ R'.length ≤ f) (fun v _ => R.length - sliceLen v)
  case atStart => exact ⟨[], R, G, R.length, World.ownsRow_nil _ _ _ _, h, Fr.refl _ _ _, fun q hq => .inl hq, by simp [Value.ownBlock], hE.out.symm, (cutV_nil R).symm, Nat.le_refl _⟩
  case round =>
    obtain ⟨out, R', G', f, hown, hR, hF, hG, hdis, hout, hRe, hf⟩ := hrel
    obtain ⟨A5, c5, rfl⟩ := own_slice hown
    have hRl : R'.length ≤ 1000000000 := by rw [hRe]; exact Nat.le_trans (cutV_le R out) hl
    have hn := rnext_any wr r G' R' hR hRl
    have hsz := hF.size
    by_cases hc : R' = [] ∨ now < nextR R'
    · have hE2 : out = E := by have := hout.out; rw [dueR_stop hc, List.append_nil] at this; exact this
      subst hE2
      have hb : decide (R' ≠ []) = false ∨ (decide (R' ≠ []) = true ∧ decide (nextR R' > now) = true) := by
        by_cases h0 : R' = []
        · left; simp [h0]
        · right
          rcases hc with h1 | h1
          · exact absurd h1 h0
          · exact ⟨by simp [h0], decide_eq_true h1⟩
      obtain ⟨b, hbb⟩ : ∃ b, decide (R' ≠ []) = b := ⟨_, rfl⟩
      obtain ⟨m, hm⟩ : ∃ m, nextR R' = m := ⟨_, rfl⟩
      rw [hbb, hm] at hb hn
      clear hbb hm hc
      rcases hb with rfl | ⟨rfl, hb⟩
      · go_wp2_with (go_at_call 16; (refine hn.mono ?_); rintro e w7 ⟨rfl, f7, s7⟩)
        go_ret
        exact ⟨_, G', rfl, own_fr hown (fun k hk => ⟨(hown.lt k hk).2, by simp⟩) f7, by rw [← hRe]; exact hR.fr0 f7, hF.trans (f7.mono hsz (by simp)), hG⟩
      · have hb2 : decide (now < m) = true := hb
        go_wp2_with (go_at_call 16; (refine hn.mono ?_); rintro e w7 ⟨rfl, f7, s7⟩)
        go_ret
        exact ⟨_, G', rfl, own_fr hown (fun k hk => ⟨(hown.lt k hk).2, by simp⟩) f7, by rw [← hRe]; exact hR.fr0 f7, hF.trans (f7.mono hsz (by simp)), hG⟩
    · obtain ⟨h0, h1⟩ := not_or.1 hc
      have hb : decide (R' ≠ []) = true := by simp [h0]
      obtain ⟨m, hm⟩ : ∃ m, nextR R' = m := ⟨_, rfl⟩
      have hm1 : decide (m > now) = false := decide_eq_false (by omega)
      have hm2 : decide (now < m) = false := decide_eq_false (by omega)
      rw [hb, hm] at hn
      obtain ⟨f', rfl⟩ : ∃ f', f = f' + 1 := ⟨f - 1, by have := List.length_pos_iff.2 h0; omega⟩
      have hHc : Hid (¬ (R' = [] ∨ now < nextR R')) := hc
      have hH0 : Hid (R' ≠ []) := h0
      clear hc h0 h1 hb
      replace hRe : Hid (R' = cutV R out) := hRe
      go_upto_region 5 with (go_at_call 16; (refine hn.mono ?_); rintro e w7 ⟨rfl, f7, s7⟩)
      have hown7 := own_fr hown (fun k hk => ⟨(hown.lt k hk).2, by simp⟩) f7
      have hR7 := hR.fr0 f7
      have hF7 := hF.trans (f7.mono hsz (by simp))
      clear hn hown hR hF f7 s7 hsz
      have hsz7 := hF7.size
      go_wp2
      go_loopw [5, 8] (fun s5 s8 wr => ∃ i : Nat, i ≤ R'.length ∧ s8 = .int .i64 (i : Int) ∧ s5 = .slice A5 out.length c5 ∧ (∀ j (hj : j < R'.length), j < i → R'[j].2 ≠ m) ∧ wr = w7) (fun _ s8 _ => R'.length - (intOf s8).toNat)
      case atStart => exact ⟨0, by omega, rfl, rfl, fun _ _ h => absurd h (by omega), rfl⟩
      case round =>
        obtain ⟨i, hi1, rfl, rfl, hall, rfl⟩ := hrel
        obtain ⟨A, c, c0, hr⟩ := hR7.read
        by_cases hlt : i < R'.length
        · have hki : (i : Int) < R'.length := by omega
          obtain ⟨blk, o, rfl, y0, y1⟩ := rc_at hr (Fr.refl wr.heap.size [] wr) (by simp) i hlt
          obtain ⟨x, hx⟩ : ∃ x, R'[i].1 = x := ⟨_, rfl⟩
          obtain ⟨a, ha⟩ : ∃ a, R'[i].2 = a := ⟨_, rfl⟩
          rw [hx] at y1
          rw [ha] at y0
          by_cases ham : a = m
          · have hgo := dueR_go (f := f') hHc.out i hlt (by rw [ha, ham, hm]) (fun j hj hji => by rw [hm]; exact hall j hj hji)
            rw [hx] at hgo
            have hout2 : Hid ((out ++ [x]) ++ dueR now f' (cut1 R' x) = E) := by
              have := hout.out
              rw [hgo] at this
              rw [List.append_assoc]
              exact this
            have hol : out.length < E.length := by rw [← hout2.out]; simp
            have hcl : (cut1 R' x).length ≤ f' := by
              have h3 : (cut1 R' x).length < R'.length := by
                unfold cut1
                refine List.length_filter_lt_length_iff_exists.2 ⟨R'[i], List.getElem_mem _, by simp [hx]⟩
              omega
            have hRe2 : Hid (cut1 R' x = cutV R (out ++ [x])) := by rw [hRe.out]; exact cutV_snoc R out x
            obtain ⟨sx, hsx⟩ : ∃ sx : ByteArray, KV x = .string sx := ⟨_, rfl⟩
            rw [hsx] at y1
            have hab : (a == m) = true := by simp [ham]
            have hmap : (out ++ [x]).map KV = out.map KV ++ [.string sx] := by rw [List.map_append]; simp [hsx]
            clear hgo hall ha ham
            have hA5 : ∀ k, (Value.slice A5 out.length c5).ownBlock = some k → w.heap.size ≤ k ∧ k < wr.heap.size := fun k hk => hown7.lt k hk
            go_wp2_with (first
              | (go_at_call 8; (refine hcan.mono ?_); rintro e w9 ⟨rfl, n9, f9⟩)
              | (at_builtin
                 refine wpList_append_has (by rfl) (.tmp 41) (.tmp 50) 30 (by rfl) w.heap.size 9 i0 (.string ⟨#[]⟩) 1 16 Try.underlying30 hi hz0 hz1 hz2 rfl (by decide) _ out.length _ (by rfl) (hown7.alloc _) wr.heap.size 1 [.string sx] (by rfl) (Has.new wr 9 _) rfl (fun u hu => by simp at hu; subst hu; rfl) (by unfold maxLen; omega) (by omega) (by simp; omega) ?_
                 intro v' w8 hB8 hg8 hv8
                 rw [← hmap] at hB8
                 have hf8 : Fr wr.heap.size (A5.toList.map (·.block)) wr w8 := ((Fr.refl wr.heap.size _ wr).alloc (by omega) _).grown hg8 (by simp) (fun q hq => .inl (by cases A5 <;> simp [Value.ownBlock] at hq ⊢; exact hq.symm))
                 have hA5' : ∀ k ∈ A5.toList.map (·.block), k ∉ G' := fun k hk => hdis k (by cases A5 <;> simp [Value.ownBlock] at hk ⊢; exact hk.symm)
                 have hR8 : RIs w8 r G' R' := hR7.fr hR7.lt (fun k hk hks => hA5' k hks hk) hf8
                 obtain ⟨A8, c8, c08, hr8⟩ := hR8.read
                 obtain ⟨blk8, o8, rfl, -, y8⟩ := rc_at hr8 (Fr.refl w8.heap.size [] w8) (by simp) i hlt
                 rw [hx, hsx] at y8
                 have hcan := rcancel_any w8 r G' R' hR8 hRl x
                 rw [hsx] at hcan
                 obtain ⟨A9, c9, rfl⟩ := own_slice hB8))
            obtain ⟨G9, hR9, hG9⟩ := n9.is
            have hs8 := hf8.size
            have hF8 : Fr w.heap.size G w w8 := hF7.trans (hf8.mono hsz7 fun k hk hkw => absurd (hA5 k (by cases A5 <;> simp [Value.ownBlock] at hk ⊢; exact hk.symm)).1 (by omega))
            have hF9 : Fr w.heap.size G w w9 := hF8.trans (f9.mono hF8.size fun k hk _ => by simp at hk; subst hk; exact hrG)
            have hlen9 : (out ++ [x]).length = out.length + 1 := by simp
            refine ⟨⟨out ++ [x], cut1 R' x, G9, f', own_fr (by rw [hlen9]; exact hB8) (fun k hk => ⟨(hB8.lt k hk).2, fun hkr => ?_⟩) f9, hR9, hF9, fun q hq => ?_, fun k hk hkG => ?_, hout2, hRe2.out, hcl⟩, ?_⟩
            · have := (hB8.lt k hk).1
              simp at hkr
              omega
            · rcases hG9 q hq with rfl | h9
              · exact .inl hrG
              · exact .inr (Nat.le_trans hF8.size h9)
            · have := hB8.lt k hk
              rcases hG9 k hkG with rfl | h9
              · omega
              · omega
            · simp [sliceLen]; omega
          · have hab : (a == m) = false := by simpa using ham
            go_wp2
            exact ⟨⟨i + 1, by omega, by go_num, rfl, fun j hj hji => by
              rcases Nat.lt_or_ge j i with h2 | h2
              · exact hall j hj h2
              · obtain rfl : j = i := by omega
                rw [ha]; exact ham, by trivial⟩, by simp [intOf]; omega⟩
        · obtain rfl : i = R'.length := by omega
          obtain ⟨y, hy, hy2⟩ := nextR_mem hH0.out
          obtain ⟨j, hj, rfl⟩ := List.getElem_of_mem hy
          exact absurd (hy2.symm.trans hm) (hall j hj hj)
end Go.Proofs.Ytkclpkepmckjgaa
