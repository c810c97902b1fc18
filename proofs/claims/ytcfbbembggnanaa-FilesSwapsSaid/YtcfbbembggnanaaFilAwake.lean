/- The chapter's examples. -/
import Derived.Test.YtcfbbembggnanaaFilAt
namespace Go.Proofs.Ytcfbbembggnanaa
open Go.RowKit Go.Maps
theorem row_new (W : World) (t : TypeId) (vs : List Value) : ARow (W.alloc (.cells vs.toArray t)) (W.alloc (.cells vs.toArray t)).heap.size (some ⟨W.heap.size, 0, none⟩) vs := by
  have h := Has.new W t vs
  refine .inr ⟨_, 0, rfl, h.lt, ?_⟩
  have := h.range 0 vs.length
  rw [List.drop_zero, List.take_length] at this
  exact this
section
variable {B : Nat} {K : List Nat} {w W : World} {g : Nat} {S : FS}
theorem Kp.back {K : List Nat} {W W' : World} {o : Obj} (h : Kp (W.heap.size :: K) (W.alloc o) W') (hK : ∀ k ∈ K, k < W.heap.size) : Kp K W W' := fun k hk => (h k (by simp [hk])).trans (Below.heap_alloc _ _ k (hK k hk))
theorem fat_append_lit (h : FAt B K w W g S) (hr : 0 ≤ S.room ∧ S.room ≤ 16777216) (hlf : 0 ≤ S.left ∧ S.left ≤ 9223372036854775807) (hst : 0 ≤ S.steps ∧ S.steps ≤ 4611686018427387904) (hu : usedP S.P ≤ 16777216) (x : Key) (c : Nat) (pl : List (List UInt8)) (hc : pl.length ≤ c) (hn : pl.length ≤ 140737488355328) (hl : pl.flatten.length ≤ 140737488355328) :
    Calls Try.prog 11 #[.pointer (some ⟨g, 0, none⟩), KV x, .slice (some ⟨W.heap.size, 0, none⟩) pl.length c] (W.alloc (.cells (pl.map strV).toArray 9)) fun e w' => e = .returned (.int .i64 (appS S x pl.flatten).1) ∧ FAt B K w w' g (appS S x pl.flatten).2 ∧ Kp K W w' := by
  have h1 := h.keep (.cells (pl.map strV).toArray 9)
  refine (fat_append h1 hr hlf hst hu x _ c pl (row_new W _ _) hc hn hl).mono fun e w' ⟨k1, k2, k3⟩ => ⟨k1, k2.drop fun k hk => by simp [hk], k3.back h.klt⟩
theorem fat_sync_lit (h : FAt B K w W g S) (hk : FOk S) (c : Nat) (xs : List Key) (hl : xs.length ≤ 1000000) :
    Calls Try.prog 12 #[.pointer (some ⟨g, 0, none⟩), .slice (some ⟨W.heap.size, 0, none⟩) xs.length c] (W.alloc (.cells (xs.map KV).toArray 9)) fun e w' => e = .returned (.int .i64 (eachP firmP xs S).1) ∧ FAt B K w w' g (eachP firmP xs S).2 ∧ Kp K W w' := by
  have h1 := h.keep (.cells (xs.map KV).toArray 9)
  refine (fat_sync h1 hk _ c xs (row_new W _ _) (fun _ => by rintro _ _ ⟨⟩; exact .inl (by simp)) hl).mono fun e w' ⟨k1, k2, k3⟩ => ⟨k1, k2.drop fun k hk => by simp [hk], k3.back h.klt⟩
theorem fat_remove_lit (h : FAt B K w W g S) (hk : FOk S) (c : Nat) (xs : List Key) (hl : xs.length ≤ 1000000) :
    Calls Try.prog 21 #[.pointer (some ⟨g, 0, none⟩), .slice (some ⟨W.heap.size, 0, none⟩) xs.length c] (W.alloc (.cells (xs.map KV).toArray 9)) fun e w' => e = .returned (.int .i64 (eachP goneP xs S).1) ∧ FAt B K w w' g (eachP goneP xs S).2 ∧ Kp K W w' := by
  have h1 := h.keep (.cells (xs.map KV).toArray 9)
  refine (fat_remove h1 hk _ c xs (row_new W _ _) (fun _ => by rintro _ _ ⟨⟩; exact .inl (by simp)) hl).mono fun e w' ⟨k1, k2, k3⟩ => ⟨k1, k2.drop fun k hk => by simp [hk], k3.back h.klt⟩
theorem fat_crash_lit (h : FAt B K w W g S) (hl : S.P.length ≤ 1000000) (hf : ∀ d ∈ S.P, okF d.2) (c : Nat) (ps : List Int) (hc : ps.length ≤ c) (hpl : ps.length ≤ 4611686018427387904) (hpo : ∀ p ∈ ps, okI p) :
    Calls Try.prog 13 #[.pointer (some ⟨g, 0, none⟩), .slice (some ⟨W.heap.size, 0, none⟩) ps.length c] (W.alloc (.cells (ps.map (Value.int .i64)).toArray 3)) fun e w' => ∃ ns : List Key, ns.Perm (S.P.map Prod.fst) ∧ e = .returned (.tuple #[]) ∧ FAt B K w w' g ⟨S.room, 0, S.steps, true, crashP ns S.P ps⟩ ∧ Kp K W w' := by
  have h1 := h.keep (.cells (ps.map (Value.int .i64)).toArray 3)
  refine (fat_crash h1 hl hf _ c ps (row_new W _ _) (fun _ => by rintro _ _ ⟨⟩; exact .inl (by simp)) hc hpl hpo).mono fun e w' ⟨ns, k0, k1, k2, k3⟩ => ⟨ns, k0, k1, k2.drop fun k hk => by simp [hk], k3.back h.klt⟩
end
theorem prefK_eq (p x : Key) : prefK p x = decide (p.1.length ≤ x.1.length ∧ x.1.take p.1.length = p.1) := by
  have h1 : ∀ (l : List UInt8) n, (⟨l.toArray⟩ : ByteArray).extract 0 n = ⟨(l.take n).toArray⟩ := fun l n => by
    apply ByteArray.ext
    simp
  unfold prefK prefA
  rw [h1, Lib.toList_data, Lib.toList_data, strV_len, strV_len]
  rw [Bool.decide_and]
  congr 1
  by_cases h : x.1.take p.1.length = p.1
  · rw [h]; simp
  · simp [h]
def ka : Key := ⟨[97], by decide⟩
def kb : Key := ⟨[98], by decide⟩
def k0 : Key := ⟨[], by decide⟩
set_option maxRecDepth 100000 in
set_option maxHeartbeats 4000000 in
theorem awake_any (w : World) : Calls Try.prog 9 #[] w fun e w' => e = .returned (.bool true) ∧ Fr w.heap.size [] w w' := by
  have e1 : appS ⟨10, 0, 0, true, []⟩ ka [[104, 101], [108, 108, 111]].flatten = (0, ⟨10, 0, 1, true, [(ka, ⟨[104, 101, 108, 108, 111], 0⟩)]⟩) := by decide
  have e2 : appS ⟨10, 0, 1, true, [(ka, ⟨[104, 101, 108, 108, 111], 0⟩)]⟩ kb [[49, 50, 51, 52, 53, 54]].flatten = (22, ⟨10, 0, 1, true, [(ka, ⟨[104, 101, 108, 108, 111], 0⟩)]⟩) := by decide
  have e3 : eachP firmP [ka] ⟨10, 0, 1, true, [(ka, ⟨[104, 101, 108, 108, 111], 0⟩)]⟩ = (0, ⟨10, 0, 2, true, [(ka, ⟨[104, 101, 108, 108, 111], 5⟩)]⟩) := by decide
  have e4 : appS ⟨10, 0, 2, true, [(ka, ⟨[104, 101, 108, 108, 111], 5⟩)]⟩ ka [[120, 121, 122]].flatten = (0, ⟨10, 0, 3, true, [(ka, ⟨[104, 101, 108, 108, 111, 120, 121, 122], 5⟩)]⟩) := by decide
  have e5 : crashP [ka] [(ka, ⟨[104, 101, 108, 108, 111, 120, 121, 122], 5⟩)] [2] = [(ka, ⟨[104, 101, 108, 108, 111, 120, 121], 7⟩)] := by decide
  have e6 : readP true [(ka, ⟨[104, 101, 108, 108, 111, 120, 121], 7⟩)] ka = [104, 101, 108, 108, 111, 120, 121] ∧ thereP true [(ka, ⟨[104, 101, 108, 108, 111, 120, 121], 7⟩)] ka = 0 := by decide
  have e7 : renS ⟨10, 0, 3, true, [(ka, ⟨[104, 101, 108, 108, 111, 120, 121], 7⟩)]⟩ ka kb = (0, ⟨10, 0, 4, true, [(kb, ⟨[104, 101, 108, 108, 111, 120, 121], 7⟩)]⟩) := by decide
  have e8 : eachP goneP [kb] ⟨10, 0, 4, true, [(kb, ⟨[104, 101, 108, 108, 111, 120, 121], 7⟩)]⟩ = (0, ⟨10, 0, 5, true, []⟩) := by decide
  have hpre : ([kb].filter (prefK k0)).length = 1 := by simp only [List.filter, prefK_eq]; decide
  have r1 : roomE 10 = 10 := by decide
  have c1 := fat_new w 10
  rw [r1] at c1
  go_enter Try.func9, Try.ntmps9
  go_upto_region 4 with (go_at_call 10; (refine c1.mono ?_); rintro e w1 ⟨rfl, h1⟩)
  have c2 := fat_append_lit h1 (by decide) (by decide) (by decide) (by decide) ka 2 [[104, 101], [108, 108, 111]] (by decide) (by decide) (by decide)
  rw [e1] at c2
  go_upto_region 5 with (go_at_call 11; (refine c2.mono ?_); rintro e w2 ⟨rfl, h2, -⟩)
  have c3 := fat_append_lit h2 (by decide) (by decide) (by decide) (by decide) kb 1 [[49, 50, 51, 52, 53, 54]] (by decide) (by decide) (by decide)
  rw [e2] at c3
  go_upto_region 6 with (go_at_call 11; (refine c3.mono ?_); rintro e w3 ⟨rfl, h3, -⟩)
  have c4 := fat_sync_lit h3 ⟨by decide, by decide, by decide, by decide, by decide, by simp [okF]⟩ 1 [ka] (by decide)
  rw [e3] at c4
  go_upto_region 7 with (go_at_call 12; (refine c4.mono ?_); rintro e w4 ⟨rfl, h4, -⟩)
  have c5 := fat_append_lit h4 (by decide) (by decide) (by decide) (by decide) ka 1 [[120, 121, 122]] (by decide) (by decide) (by decide)
  rw [e4] at c5
  go_upto_region 8 with (go_at_call 11; (refine c5.mono ?_); rintro e w5 ⟨rfl, h5, -⟩)
  have c6 := fat_crash_lit h5 (by decide) (by simp [okF]) 1 [2] (by decide) (by decide) (by simp [okI])
  go_upto_region 9 with (go_at_call 13; (refine c6.mono ?_); rintro e w6 ⟨ns, hns, rfl, h6, -⟩)
  obtain rfl : ns = [ka] := List.perm_singleton.1 hns
  rw [e5] at h6
  have c7 := fat_read h6 ka
  simp only [e6.1, e6.2] at c7
  have e9 : strV [104, 101, 108, 108, 111, 120, 121] = .string ⟨#[104, 101, 108, 108, 111, 120, 121]⟩ := rfl
  rw [e9] at c7
  clear e9
  go_upto_region 10 with (go_at_call 14; (refine c7.mono ?_); rintro e w7 ⟨rfl, h7, -⟩)
  have c8 := fat_rename h7 ⟨by decide, by decide, by decide, by decide, by decide, by simp [okF]⟩ ka kb
  rw [e7] at c8
  clear c1 c2 c3 c4 c5 c6 c7 e1 e2 e3 e4 e5 e6 e7 h1 h2 h3 h4 h5 h6
  go_wp2_with (first
    | (go_at_call 19; (refine (fat_on h11).mono ?_); rintro e w12 ⟨rfl, rfl⟩)
    | (go_at_call 15; (refine (fat_used h10 (by decide)).mono ?_); rintro e w11 ⟨rfl, h11, -⟩)
    | (go_at_call 21; (refine c10.mono ?_); rintro e w10 ⟨rfl, h10, -⟩)
    | (go_at_call 18; (refine (fat_list h8 (by decide) k0).mono ?_); rintro e w9 ⟨v, ls, rfl, o9, h9, -, -, hl⟩; obtain ⟨ns, hns, rfl⟩ := hl rfl; obtain rfl : ns = [kb] := List.perm_singleton.1 hns; obtain ⟨A, cp, rfl⟩ := own_slice o9; have c10 := fat_remove_lit h9 ⟨by decide, by decide, by decide, by decide, by decide, by simp [okF]⟩ 1 [kb] (by decide); rw [e8] at c10; have hlen : ([kb].filter (prefK k0)).length = 1 := hpre)
    | (go_at_call 22; (refine c8.mono ?_); rintro e w8 ⟨rfl, h8, -⟩))
  go_ret
  exact ⟨rfl, h11.frame⟩
end Go.Proofs.Ytcfbbembggnanaa
