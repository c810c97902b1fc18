/- WheelOnce: the walk. -/
import Derived.Test.YtkclpkepmckjgaaWhlOnceP
import Derived.Test.YtkclpkepmckjgaaWhlOpens
import Derived.BigQuiet
import Derived.Deep.CutRange
namespace Go.Proofs.Ytkclpkepmckjgaa
open Go.RowKit Go.Maps Go.Sort Go.Shelf
open Wh
namespace Wh
structure OnSt (w W : World) (g bn bl bs : Nat) (i : Int) (L : List (Key × Int)) (la : Nat → Int) (se : Nat → Bool) : Prop where
  at_ : WAt w.heap.size [bs, bl, bn] w W g i L
  rn : Has W bn 9 (row5 fun m => KV (nm m))
  rl : Has W bl 3 (row5 fun m => .int .i64 (la m))
  rs : Has W bs 4 (row5 fun m => .bool (se m))
  lo : w.heap.size ≤ bl ∧ w.heap.size ≤ bs
  ok : ∀ m, okI (la m)
section
variable {w W W' : World} {g bn bl bs : Nat} {i i' : Int} {L L' : List (Key × Int)} {la : Nat → Int} {se : Nat → Bool}
theorem OnSt.step (h : OnSt w W g bn bl bs i L la se) (h2 : WAt w.heap.size [bs, bl, bn] w W' g i' L') (hk : Kp [bs, bl, bn] W W') : OnSt w W' g bn bl bs i' L' la se :=
  ⟨h2, hk.has (by simp) h.rn, hk.has (by simp) h.rl, hk.has (by simp) h.rs, h.lo, h.ok⟩
theorem OnSt.fr (h : OnSt w W g bn bl bs i L la se) (hf : Fr W.heap.size [] W W') : OnSt w W' g bn bl bs i L la se := by
  obtain ⟨h1, h2⟩ := h.at_.fr hf
  exact h.step h1 h2
theorem OnSt.drew (h : OnSt w W g bn bl bs i L la se) : OnSt w W.drew g bn bl bs i L la se := h.fr (Fr.refl _ _ _).drew
theorem OnSt.ne (h : OnSt w W g bn bl bs i L la se) : bn ≠ bl ∧ bn ≠ bs ∧ bl ≠ bs :=
  ⟨h.rn.ne h.rl (by decide), h.rn.ne h.rs (by decide), h.rl.ne h.rs (by decide)⟩
theorem OnSt.putLa (h : OnSt w W g bn bl bs i L la se) (k : Nat) (a : Int) (ha : okI a) : OnSt w (W.setCell ⟨bl, k, none⟩ (.int .i64 a)) g bn bl bs i L (fun m => if m = k then a else la m) se := by
  obtain ⟨n1, n2, n3⟩ := h.ne
  have ho := (One.refl bl W).setCell k (.int .i64 a)
  refine ⟨h.at_.write (b := bl) (by simp) h.lo.1 ho, h.rn.one ho n1, ?_, h.rs.one ho (Ne.symm n3), h.lo, fun m => ?_⟩
  · have := h.rl.set k (.int .i64 a)
    rw [row5_set] at this
    refine Eq.trans this ?_
    congr 3
    refine row5_congr fun m _ => ?_
    split <;> rfl
  · show okI (if m = k then a else la m)
    split
    · exact ha
    · exact h.ok m
theorem OnSt.putSe (h : OnSt w W g bn bl bs i L la se) (k : Nat) (b : Bool) : OnSt w (W.setCell ⟨bs, k, none⟩ (.bool b)) g bn bl bs i L la (fun m => if m = k then b else se m) := by
  obtain ⟨n1, n2, n3⟩ := h.ne
  have ho := (One.refl bs W).setCell k (.bool b)
  refine ⟨h.at_.write (b := bs) (by simp) h.lo.2 ho, h.rn.one ho n2, h.rl.one ho n3, ?_, h.lo, h.ok⟩
  have := h.rs.set k (.bool b)
  rw [row5_set] at this
  refine Eq.trans this ?_
  congr 3
  refine row5_congr fun m _ => ?_
  split <;> rfl
theorem OnSt.seq (h : OnSt w W g bn bl bs i L la se) {se' : Nat → Bool} (he : ∀ m, m < 5 → se m = se' m) : OnSt w W g bn bl bs i L la se' :=
  ⟨h.at_, h.rn, h.rl, by rw [← row5_congr (f := fun m => .bool (se m)) (g := fun m => .bool (se' m)) fun m hm => by rw [he m hm]]; exact h.rs, h.lo, h.ok⟩
theorem OnSt.cells (h : OnSt w W g bn bl bs i L la se) {m : Nat} (hm : m < 5) : W.cell? ⟨bn, m, none⟩ = some (KV (Wh.nm m)) ∧ W.cell? ⟨bl, m, none⟩ = some (.int .i64 (la m)) ∧ W.cell? ⟨bs, m, none⟩ = some (.bool (se m)) :=
  ⟨by rw [h.rn.cell, row5_at _ hm], by rw [h.rl.cell, row5_at _ hm], by rw [h.rs.cell, row5_at _ hm]⟩
theorem WAt.rebase {B B' : Nat} {K : List Nat} {w0 : World} {n : Int} (h : WAt B K w0 W g n L) (hB : B' ≤ B) (hf : Fr B' [] w w0) : WAt B' K w W g n L := by
  obtain ⟨F, D, LT, h1, o1, o2, h2, h3, h4⟩ := h
  exact ⟨F, D, LT, h1, o1, o2, fun q hq => ⟨Nat.le_trans hB (h2 q hq).1, (h2 q hq).2⟩, h3, hf.trans (h4.mono hB (by simp))⟩
end
theorem str_beq {x y : Key} {s t : ByteArray} (hs : KV x = .string s) (ht : KV y = .string t) : (s.toList == t.toList) = decide (x = y) := by
  have h1 : s = ⟨x.1.toArray⟩ := by unfold KV encStr at hs; injection hs with hs; exact hs.symm
  have h2 : t = ⟨y.1.toArray⟩ := by unfold KV encStr at ht; injection ht with ht; exact ht.symm
  rw [h1, h2, Lib.toList_data, Lib.toList_data]
  by_cases h : x = y
  · subst h; simp
  · have h2 : x.1 ≠ y.1 := fun e => h (Subtype.ext e)
    simp [h, h2]
theorem OutRow.one {W W' : World} {base c b : Nat} {A : Option Addr} {xs : List Key} (h : OutRow W base A c xs) (o : One b W W') (hb : b < base) : OutRow W' base A c xs := by
  rcases h with h1 | ⟨blk, cs, rfl, h1, h2, h3⟩
  · exact .inl h1
  · exact .inr ⟨blk, cs, rfl, h1, h2.one o (by omega), h3⟩
theorem OutRow.drew {W : World} {base c : Nat} {A : Option Addr} {xs : List Key} (h : OutRow W base A c xs) : OutRow W.drew base A c xs := h
theorem op_at {w : World} {A : Option Addr} {ops : List WOp} (hA : ARow w w.heap.size A (ops.flatMap WOp.cells)) (k : Nat) (hk : k < ops.length) :
    ∃ blk o, A = some ⟨blk, o, none⟩ ∧ blk < w.heap.size ∧ ∀ W, Fr w.heap.size [] w W → W.cell? ⟨blk, o + k * 3, none⟩ = some (.int .i64 ops[k].kind) ∧ W.cell? ⟨blk, o + k * 3 + 1, none⟩ = some (.int .i64 ops[k].at_) ∧ W.cell? ⟨blk, o + k * 3 + 2, none⟩ = some (.slice ops[k].A ops[k].names.length ops[k].c) := by
  obtain ⟨blk, o, h1, h2, h3⟩ := hA.at (cells := WOp.cells) (c := 3) (fun _ => rfl) (by decide) k hk
  refine ⟨blk, o, h1, h2, fun W hf => ⟨?_, ?_, ?_⟩⟩
  · exact (hf.cell (p := ⟨blk, o + k * 3, none⟩) h2 (by simp)).trans (h3 0 _ rfl)
  · exact (hf.cell (p := ⟨blk, o + k * 3 + 1, none⟩) h2 (by simp)).trans (h3 1 _ rfl)
  · exact (hf.cell (p := ⟨blk, o + k * 3 + 2, none⟩) h2 (by simp)).trans (h3 2 _ rfl)
theorem time_at {w : World} {A : Option Addr} {ts : List Int} (hA : ARow w w.heap.size A (ts.flatMap fun n => [.int .i64 n])) (k : Nat) (hk : k < ts.length) :
    ∃ blk o, A = some ⟨blk, o, none⟩ ∧ ∀ W, Fr w.heap.size [] w W → W.cell? ⟨blk, o + k, none⟩ = some (.int .i64 ts[k]) := by
  obtain ⟨blk, o, h1, h2, h3⟩ := hA.at (cells := fun n : Int => [Value.int .i64 n]) (c := 1) (fun _ => rfl) (by decide) k hk
  have := h3 0 _ rfl
  rw [Nat.mul_one, Nat.add_zero] at this
  exact ⟨blk, o, h1, fun W hf => (hf.cell (p := ⟨blk, o + k, none⟩) h2 (by simp)).trans this⟩
end Wh
set_option maxRecDepth 100000 in
set_option maxHeartbeats 20000000 in
theorem once_law (w : World) (A : Option Addr) (c : Nat) (ops : List WOp) (hA : ARow w w.heap.size A (ops.flatMap WOp.cells)) (hops : ∀ o ∈ ops, o.ok w) (A2 : Option Addr) (c2 : Nat) (ts : List Int) (hA2 : ARow w w.heap.size A2 (ts.flatMap fun n => [.int .i64 n])) :
    Calls Try.prog 4 #[.slice A ops.length c, .slice A2 ts.length c2] w fun e w' => e = .returned (.bool true) ∧ Fr w.heap.size [] w w' := by
  have hmi : ∀ W, (Instr.makeSlice 44 (.int .i64 5) (.int .i64 5)).run Try.prog W = .ok (.slice (some ⟨W.heap.size, 0, none⟩) 5 5) (W.alloc (.cells #[.int .i64 0, .int .i64 0, .int .i64 0, .int .i64 0, .int .i64 0] 3)) := fun W => by kernel_rfl
  have hmb : ∀ W, (Instr.makeSlice 45 (.int .i64 5) (.int .i64 5)).run Try.prog W = .ok (.slice (some ⟨W.heap.size, 0, none⟩) 5 5) (W.alloc (.cells #[.bool false, .bool false, .bool false, .bool false, .bool false] 4)) := fun W => by kernel_rfl
  go_enter Try.func4, Try.ntmps4
  go_upto_region 2 with (go_at_call 6; (refine (awake_any w).mono ?_); rintro e w1 ⟨rfl, f1⟩)
  go_upto_region 5 with (go_at_call 7; (refine (at_new w1).mono ?_); rintro e w2 ⟨rfl, h2⟩)
  go_upto_region 8 with fail
  obtain ⟨w3, hw3⟩ : ∃ w3, Hid (w3 = ((w2.alloc (.cells #[.string ⟨#[97]⟩, .string ⟨#[98]⟩, .string ⟨#[99]⟩, .string ⟨#[100]⟩, .string ⟨#[101]⟩] 9)).alloc (.cells #[.int .i64 0, .int .i64 0, .int .i64 0, .int .i64 0, .int .i64 0] 3)).alloc (.cells #[.bool false, .bool false, .bool false, .bool false, .bool false] 4)) := ⟨_, rfl⟩
  have hst : OnSt w w3 w1.heap.size w2.heap.size (w2.heap.size + 1) (w2.heap.size + 1 + 1) 0 [] (fun _ => 0) (fun _ => false) := by
    have hlo := f1.size
    have hlo2 := h2.lo
    have k1 := h2.keep (.cells #[.string ⟨#[97]⟩, .string ⟨#[98]⟩, .string ⟨#[99]⟩, .string ⟨#[100]⟩, .string ⟨#[101]⟩] 9)
    have k2 := k1.keep (.cells #[.int .i64 0, .int .i64 0, .int .i64 0, .int .i64 0, .int .i64 0] 3)
    have k3 := k2.keep (.cells #[.bool false, .bool false, .bool false, .bool false, .bool false] 4)
    have r1 := Has.new w2 9 (row5 fun m => KV (nm m))
    have r2 := Has.new' (w2.alloc (.cells #[.string ⟨#[97]⟩, .string ⟨#[98]⟩, .string ⟨#[99]⟩, .string ⟨#[100]⟩, .string ⟨#[101]⟩] 9)) 3 (row5 fun _ => .int .i64 0) (g := w2.heap.size + 1) (by simp)
    have r3 := Has.new' ((w2.alloc (.cells #[.string ⟨#[97]⟩, .string ⟨#[98]⟩, .string ⟨#[99]⟩, .string ⟨#[100]⟩, .string ⟨#[101]⟩] 9)).alloc (.cells #[.int .i64 0, .int .i64 0, .int .i64 0, .int .i64 0, .int .i64 0] 3)) 4 (row5 fun _ => .bool false) (g := w2.heap.size + 1 + 1) (by simp)
    rw [hw3.out]
    refine ⟨?_, (r1.alloc _).alloc _, r2.alloc _, r3, ⟨by omega, by omega⟩, fun _ => by unfold okI; omega⟩
    have := k3.rebase hlo f1
    simpa using this
  rw [← hw3.out]
  clear hmi hmb hw3 h2 f1
  generalize w2.heap.size = bn at hst ⊢
  generalize w1.heap.size = g at hst ⊢
  obtain ⟨bl, hbl⟩ : ∃ bl, bl = bn + 1 := ⟨_, rfl⟩
  obtain ⟨bs, hbs⟩ : ∃ bs, bs = bl + 1 := ⟨_, rfl⟩
  rw [← hbl, ← hbs] at hst ⊢
  clear hbl hbs
  go_wp2
  go_loopw [10] (fun s10 wr => ∃ (i : Nat) (L : List (Key × Int)) (la : Nat → Int) (se : Nat → Bool), i ≤ ops.length ∧ i ≤ 60 ∧ s10 = .int .i64 (i : Int) ∧ OnSt w wr g bn bl bs (i : Int) L la se ∧ Inv L la se) (fun s10 _ => ops.length - (intOf s10).toNat)
  case atStart => exact ⟨0, [], _, _, by omega, by omega, rfl, hst, Inv.start _⟩
  case round =>
    obtain ⟨i, L, la, se, hi, hi60, rfl, st, inv⟩ := hrel
    by_cases hgo : i < ops.length ∧ i < 60
    · obtain ⟨hi1, hi2⟩ := hgo
      have hi1' : (i : Int) < ops.length := by omega
      have hi2' : (i : Int) < 60 := by omega
      obtain ⟨blk, o, rfl, -, hu⟩ := op_at hA i hi1
      obtain ⟨hkind, hat, -⟩ := hops ops[i] (List.getElem_mem _)
      generalize ops[i].kind = kind at *
      generalize ops[i].at_ = a at *
      obtain ⟨u0, u1, -⟩ := hu _ st.at_.frame
      go_upto_if 43 with fail
      have hr1 : -5 < kind.tmod 5 := by have := Int.tmod_lt_of_pos kind (b := 5) (by decide); have := Int.lt_tmod_of_pos kind (b := 5) (by decide); omega
      have hr2 : kind.tmod 5 < 5 := Int.tmod_lt_of_pos kind (by decide)
      go_cut [11] from 41 to 45 (fun s11 wc => ∃ k : Nat, k < 5 ∧ s11 = .int .i64 (k : Int) ∧ wc = wr)
      case first =>
        generalize kind.tmod 5 = r at hr1 hr2 ⊢
        have hw : IntKind.i64.wrap (-r) = -r := IntWalk.i64_in _ (by omega)
        by_cases hneg : r < 0
        · have hnd : decide (r < 0) = true := decide_eq_true hneg
          go_wp2
          go_meet
          case rel => exact ⟨(-r).toNat, by omega, by congr 1; omega, rfl⟩
        · have hnd : decide (r < 0) = false := decide_eq_false hneg
          go_wp2
          go_meet
          case rel => exact ⟨r.toNat, by omega, by congr 1; omega, rfl⟩
      case rest =>
        obtain ⟨k, hk, rfl, rfl⟩ := hcut
        have hk0 : (0 : Int) ≤ k := by omega
        have hk5 : (k : Int) < 5 := by omega
        obtain ⟨sk, hsk⟩ : ∃ sk : ByteArray, KV (nm k) = .string sk := ⟨_, rfl⟩
        obtain ⟨v0, -, -⟩ := st.cells hk
        rw [hsk] at v0
        have stA := (st.fr ((Fr.refl _ _ _).alloc (Nat.le_refl _) (.cells #[.string sk] 9)))
        obtain ⟨-, u2, -⟩ := hu _ stA.at_.frame
        have r3 : wc.drew.cell? ⟨blk, o + i * 3 + 1, none⟩ = some (.int .i64 a) := u1
        have r4 : (wc.alloc (.cells #[.string sk] 9)).drew.cell? ⟨blk, o + i * 3 + 1, none⟩ = some (.int .i64 a) := u2
        have v1 : wc.drew.cell? ⟨bn, k, none⟩ = some (.string sk) := v0
        have c14 := at_set_lit st.drew.at_ a [nm k] 1 (by omega) (by simp; omega)
        simp only [List.map_cons, List.map_nil, hsk, List.length_cons, List.length_nil] at c14
        go_upto_region 14 with fail
        go_cut [] from 46 to 58 (fun w4 => WAt w.heap.size [bs, bl, bn] w w4 g ((i : Int) + ((0 + 1 : Nat) : Int)) (setV a L [nm k]) ∧ Kp [bs, bl, bn] wc w4)
        case first =>
          go_region_with (go_at_call 13; (refine c14.mono ?_); rintro e w4 ⟨rfl, h4, p4⟩)
          all_goals
            go_wp2
            go_meet
            case rel => exact ⟨h4, p4⟩
        case rest =>
        obtain ⟨h4, p4⟩ := hcut
        have st4 := st.step h4 p4
        have e4 : setV a L [nm k] = set1 a L (nm k) := rfl
        have e4' : (i : Int) + ((0 + 1 : Nat) : Int) = ((i + 1 : Nat) : Int) := by omega
        rw [e4, e4'] at st4
        obtain ⟨-, u1, -⟩ := hu _ st4.at_.frame
        obtain ⟨-, v1, -⟩ := st4.cells hk
        have z1 := st4.rl.frozen k
        have st5 := st4.putLa k a hat
        have inv6 := inv.set a hk
        go_upto_region 16 with fail
        obtain ⟨w5, hw5⟩ : ∃ w5, w5 = wc.setCell ⟨bl, k, none⟩ (.int .i64 a) := ⟨_, rfl⟩
        rw [← hw5] at st5 ⊢
        clear hw5
        obtain ⟨-, -, v2⟩ := st5.cells hk
        have z2 := st5.rs.frozen k
        have st6 := st5.putSe k true
        go_upto_region 17 with fail
        obtain ⟨w6, hw6⟩ : ∃ w6, w6 = w5.setCell ⟨bs, k, none⟩ (.bool true) := ⟨_, rfl⟩
        rw [← hw6] at st6 ⊢
        clear hw6 st5 st4 h4 p4 st c14 v0 v1 v2 z1 z2 r3 r4 stA
        generalize (fun m => if m = k then a else la m) = la2 at st6 inv6
        generalize (fun m => if m = k then true else se m) = se2 at st6 inv6
        generalize set1 a L (nm k) = L2 at st6 inv6
        have hl2 : L2.length ≤ 8796093022208 := by rw [inv6.len]; have := cnt_le se2 5; omega
        by_cases hti : i < ts.length
        · have hti' : decide ((i : Int) ≥ ts.length) = false := by simp; omega
          have hti2 : decide ((ts.length : Int) ≤ (i : Int)) = false := by simp; omega
          have hti3 : decide (ts.length ≤ i) = false := by simp; omega
          have hti4 : (i : Int) < ts.length := by omega
          obtain ⟨blk2, o2, rfl, ht⟩ := time_at hA2 i hti
          have hq0 := ht _ st6.at_.frame
          generalize ts[i] = t at *
          have c18 := at_due st6.at_ hl2 t
          go_upto_region 19 with (go_at_call 10; (refine c18.mono ?_); rintro e w7 ⟨A3, c3, rfl, o7, h7, p7⟩)
          have st7 := st6.step (h7.drop fun q hq => by simp at hq ⊢; rcases hq with rfl | rfl | rfl <;> simp) p7
          have hnod := nod_due (t := t) inv6.nod
          have hmem : ∀ p, p ∈ dueR t L2.length L2 → ∃ v, (p, v) ∈ L2 ∧ v ≤ t := fun p hp => (mem_due inv6.nod).1 hp
          have hall : ∀ p v, (p, v) ∈ L2 → v ≤ t → p ∈ dueR t L2.length L2 := fun p v hp hv => (mem_due inv6.nod).2 ⟨v, hp, hv⟩
          have hxl : (dueR t L2.length L2).length ≤ 5 := by have h8 := due_len (t := t) inv6.nod; have h9 := inv6.len; have h10 := cnt_le se2 5; omega
          have hbs : bs < w6.heap.size := st6.at_.klt bs (by simp)
          clear c18 h7 p7 st6 hq0
          generalize dueR t L2.length L2 = xs at *
          generalize w6.heap.size = base at *
          go_wp2
          go_loopw [13] (fun s13 wr => ∃ n : Nat, n ≤ xs.length ∧ s13 = .int .i64 (n : Int) ∧ OnSt w wr g bn bl bs ((i + 1 : Nat) : Int) (cutV L2 xs) la2 (seAt se2 xs n 0) ∧ OutRow wr base A3 c3 xs) (fun s13 _ => xs.length - (intOf s13).toNat)
          case atStart => exact ⟨0, by omega, rfl, by rw [seAt_zero]; exact st7, o7⟩
          case round =>
            obtain ⟨n, hn, rfl, sn, on⟩ := hrel
            by_cases hlt : n < xs.length
            · have hlt' : (n : Int) < xs.length := by omega
              obtain ⟨blk3, cs, rfl, r1, r2, r3, r4, r5, r6, r7⟩ := out_cells on (by intro h; rw [h] at hlt; simp at hlt)
              clear r1 r2 r3 r6 r7 cs
              have hxm := hmem xs[n] (List.getElem_mem _)
              have hxn : xs[n]? = some xs[n] := List.getElem?_eq_getElem hlt
              have hn0 : (0 : Int) ≤ n := by omega
              obtain ⟨w8, rfl⟩ : ∃ w8, w8 = wr := ⟨wr, rfl⟩
              go_wp2
              go_loopw [14] (fun s14 wr => ∃ j : Nat, j ≤ 5 ∧ s14 = .int .i64 (j : Int) ∧ OnSt w wr g bn bl bs ((i + 1 : Nat) : Int) (cutV L2 xs) la2 (seAt se2 xs n j) ∧ OutRow wr base (some ⟨blk3, 0, none⟩) c3 xs) (fun s14 _ => 5 - (intOf s14).toNat)
              case atStart => exact ⟨0, by omega, rfl, sn, on⟩
              case round =>
                obtain ⟨j, hj, rfl, sj, oj⟩ := hrel
                by_cases hj5 : j < 5
                · have hj5' : (j : Int) < 5 := by omega
                  have hj0 : (0 : Int) ≤ j := by omega
                  obtain ⟨y0, y1, y2⟩ := sj.cells hj5
                  obtain ⟨b3, cs, he3, -, -, -, -, -, -, r7⟩ := out_cells oj (by intro h; rw [h] at hlt; simp at hlt)
                  injection he3 with he3; injection he3 with he3; subst he3
                  have y3 := r7 n hlt
                  have hq1 := ht _ sj.at_.frame
                  clear r7
                  obtain ⟨s1, hs1⟩ : ∃ s1 : ByteArray, KV (nm j) = .string s1 := ⟨_, rfl⟩
                  obtain ⟨s2, hs2⟩ : ∃ s2 : ByteArray, KV xs[n] = .string s2 := ⟨_, rfl⟩
                  have hbq := str_beq hs1 hs2
                  rw [hs1] at y0
                  rw [hs2] at y3
                  clear hs1 hs2
                  obtain ⟨Wd, hWd⟩ : ∃ Wd, Hid (Wd = wr.drew) := ⟨_, rfl⟩
                  have hrd : ∀ W, W = Wd → W.cell? ⟨bn, j, none⟩ = some (.string s1) ∧ W.cell? ⟨blk3, n, none⟩ = some (.string s2) := fun W hW => by
                    rw [hW, hWd.out]
                    exact ⟨y0, y3⟩
                  go_upto_region 25 with fail
                  by_cases he : nm j = xs[n]
                  · rw [decide_eq_true he] at hbq
                    replace he : Hid (nm j = xs[n]) := he
                    refine wp_region_class (fun W => W = Wd) (by kernel_rfl) (by kernel_rfl) (by rw [hWd.out]) ?_
                    repeat
                      first
                        | (refine wpQuiet_skip (by rfl) ?_; try simp only [Act.put, List.setIfInBounds_toArray, List.set_cons_zero, List.set_cons_succ])
                        | (refine wpQuiet_take (by rfl) ?_
                           apply Exists.intro
                           refine ⟨fun W hW => ?_, ?_⟩
                           · first
                               | ((obtain ⟨t0, t1⟩ := hrd _ hW; go_simp); done)
                               | ((obtain ⟨t0, t1⟩ := hrd _ hW; go_simp; exact rfl); done)
                               | (go_simp; done)
                               | (go_simp; exact rfl)
                           try simp only [Act.put, List.setIfInBounds_toArray, List.set_cons_zero, List.set_cons_succ])
                    refine wpQuiet_nil ?_
                    intro wq hq
                    subst hq
                    go_upto_region 26 with fail
                    obtain ⟨v, hv1, hv2⟩ := hxm
                    obtain ⟨m, hm1, hm2, hm3, hm4⟩ := (inv6.mem _ _).1 hv1
                    obtain rfl : m = j := nm_inj m hm1 j hj5 (hm2.symm.trans he.out.symm)
                    have hsj : seAt se2 xs n m m = true := by
                      have := nodup_take hnod hlt
                      rw [← he.out] at this
                      unfold seAt
                      simp [hm3, this]
                    rw [hsj] at y2
                    have hlt2 : decide (la2 m > t) = false := by simp; omega
                    have hlt3 : decide (t < la2 m) = false := by simp; omega
                    clear hm2 hm3 hm4 hsj hv1 hv2
                    obtain ⟨Wd, hWd2⟩ : ∃ Wd, Hid (Wd = wq.drew) := ⟨_, rfl⟩
                    have hrd2 : ∀ W, W = Wd → W.cell? ⟨bl, m, none⟩ = some (.int .i64 (la2 m)) ∧ W.cell? ⟨bs, m, none⟩ = some (.bool true) ∧ W.cell? ⟨blk2, o2 + i, none⟩ = some (.int .i64 t) := fun W hW => by
                      rw [hW, hWd2.out, hWd.out]
                      exact ⟨y1, y2, hq1⟩
                    have sq : OnSt w Wd g bn bl bs ((i + 1 : Nat) : Int) (cutV L2 xs) la2 (seAt se2 xs n m) := by rw [hWd2.out, hWd.out]; exact sj.drew.drew
                    have oq : OutRow Wd base (some ⟨blk3, 0, none⟩) c3 xs := by rw [hWd2.out, hWd.out]; exact oj.drew.drew
                    clear hrd y0 y1 y2 y3 hq1
                    refine wp_region_class (fun W => W = Wd) (by kernel_rfl) (by kernel_rfl) (by rw [hWd2.out]) ?_
                    repeat
                      first
                        | (refine wpQuiet_skip (by rfl) ?_; try simp only [Act.put, List.setIfInBounds_toArray, List.set_cons_zero, List.set_cons_succ])
                        | (refine wpQuiet_take (by rfl) ?_
                           apply Exists.intro
                           refine ⟨fun W hW => ?_, ?_⟩
                           · first
                               | ((obtain ⟨t0, t1, t2⟩ := hrd2 _ hW; go_simp); done)
                               | ((obtain ⟨t0, t1, t2⟩ := hrd2 _ hW; go_simp; exact rfl); done)
                               | (go_simp; done)
                               | (go_simp; exact rfl)
                           try simp only [Act.put, List.setIfInBounds_toArray, List.set_cons_zero, List.set_cons_succ])
                    refine wpQuiet_nil ?_
                    intro wq hq
                    subst hq
                    obtain ⟨-, -, z0⟩ := sq.cells hj5
                    have z1 := sq.rs.frozen m
                    have sf := sq.putSe m false
                    have of := oq.one ((One.refl bs _).setCell m (.bool false)) hbs
                    go_wp2
                    refine ⟨⟨m + 1, by omega, by go_num, sf.seq fun q _ => ?_, of⟩, by simp [intOf]; omega⟩
                    rw [seAt_take se2 xs n m (by rw [hxn, he.out])]
                  · rw [decide_eq_false he] at hbq
                    replace he : Hid (¬ nm j = xs[n]) := he
                    refine wp_region_class (fun W => W = Wd) (by kernel_rfl) (by kernel_rfl) (by rw [hWd.out]) ?_
                    repeat
                      first
                        | (refine wpQuiet_skip (by rfl) ?_; try simp only [Act.put, List.setIfInBounds_toArray, List.set_cons_zero, List.set_cons_succ])
                        | (refine wpQuiet_take (by rfl) ?_
                           apply Exists.intro
                           refine ⟨fun W hW => ?_, ?_⟩
                           · first
                               | ((obtain ⟨t0, t1⟩ := hrd _ hW; go_simp); done)
                               | ((obtain ⟨t0, t1⟩ := hrd _ hW; go_simp; exact rfl); done)
                               | (go_simp; done)
                               | (go_simp; exact rfl)
                           try simp only [Act.put, List.setIfInBounds_toArray, List.set_cons_zero, List.set_cons_succ])
                    refine wpQuiet_nil ?_
                    intro wq hq
                    subst hq
                    go_wp2
                    refine ⟨⟨j + 1, by omega, by go_num, ?_, ?_⟩, by simp [intOf]; omega⟩
                    · refine (show OnSt w wq g bn bl bs ((i + 1 : Nat) : Int) (cutV L2 xs) la2 (seAt se2 xs n j) by rw [hWd.out]; exact sj.drew).seq fun q _ => ?_
                      rw [seAt_skip se2 xs n j (by rw [hxn]; intro e; injection e with e; exact he.out e.symm)]
                    · rw [hWd.out]; exact oj.drew
                · obtain rfl : j = 5 := by omega
                  go_wp2
                  exact ⟨⟨n + 1, by omega, by go_num, sj.seq fun q hq => seAt_next se2 xs n hlt q hq, oj⟩, by simp [intOf]; omega⟩
            · obtain rfl : n = xs.length := by omega
              have sn2 := sn.seq (se' := fun m => se2 m && decide (nm m ∉ xs)) fun q _ => seAt_end se2 xs q
              have inv7 := inv6.cut xs
              clear sn
              obtain ⟨w8, rfl⟩ : ∃ w8, w8 = wr := ⟨wr, rfl⟩
              go_wp2
              go_loopw [15] (fun s15 wr => ∃ j : Nat, j ≤ 5 ∧ s15 = .int .i64 (j : Int) ∧ OnSt w wr g bn bl bs ((i + 1 : Nat) : Int) (cutV L2 xs) la2 (fun m => se2 m && decide (nm m ∉ xs))) (fun s15 _ => 5 - (intOf s15).toNat)
              case atStart => exact ⟨0, by omega, rfl, sn2⟩
              case round =>
                obtain ⟨j, hj, rfl, sj⟩ := hrel
                by_cases hj5 : j < 5
                · have hj5' : (j : Int) < 5 := by omega
                  have hj0 : (0 : Int) ≤ j := by omega
                  obtain ⟨-, y1, y2⟩ := sj.cells hj5
                  have hq1 := ht _ sj.at_.frame
                  have hor : (se2 j && decide (nm j ∉ xs)) = false ∨ ((se2 j && decide (nm j ∉ xs)) = true ∧ t < la2 j) := by
                    by_cases hc : (se2 j && decide (nm j ∉ xs)) = true
                    · refine .inr ⟨hc, ?_⟩
                      simp only [Bool.and_eq_true, decide_eq_true_eq] at hc
                      refine Int.not_le.1 fun hle => hc.2 (hall (nm j) (la2 j) ((inv6.mem _ _).2 ⟨j, hj5, rfl, hc.1, rfl⟩) hle)
                    · exact .inl (by simpa using hc)
                  obtain ⟨Wd, hWd⟩ : ∃ Wd, Hid (Wd = wr.drew) := ⟨_, rfl⟩
                  have sq : OnSt w Wd g bn bl bs ((i + 1 : Nat) : Int) (cutV L2 xs) la2 (fun m => se2 m && decide (nm m ∉ xs)) := by rw [hWd.out]; exact sj.drew
                  go_upto_region 32 with fail
                  rcases hor with hf | ⟨hf, hlt⟩
                  · rw [hf] at y2
                    clear y1 hq1 hf
                    go_quiet (fail)
                    go_wp2
                    exact ⟨⟨j + 1, by omega, by go_num, sj.fr ((Fr.refl _ _ _).drewN _)⟩, by simp [intOf]; omega⟩
                  · rw [hf] at y2
                    have hlt2 : decide (la2 j ≤ t) = false := by simp; omega
                    have hrd : ∀ W, W = Wd → W.cell? ⟨bl, j, none⟩ = some (.int .i64 (la2 j)) ∧ W.cell? ⟨bs, j, none⟩ = some (.bool true) ∧ W.cell? ⟨blk2, o2 + i, none⟩ = some (.int .i64 t) := fun W hW => by rw [hW, hWd.out]; exact ⟨y1, y2, hq1⟩
                    clear y1 y2 hq1 hf
                    refine wp_region_class (fun W => W = Wd) (by kernel_rfl) (by kernel_rfl) (by rw [hWd.out]) ?_
                    repeat
                      first
                        | (refine wpQuiet_skip (by rfl) ?_; try simp only [Act.put, List.setIfInBounds_toArray, List.set_cons_zero, List.set_cons_succ])
                        | (refine wpQuiet_take (by rfl) ?_
                           apply Exists.intro
                           refine ⟨fun W hW => ?_, ?_⟩
                           · first
                               | ((obtain ⟨t0, t1, t2⟩ := hrd _ hW; go_simp); done)
                               | ((obtain ⟨t0, t1, t2⟩ := hrd _ hW; go_simp; exact rfl); done)
                               | (go_simp; done)
                               | (go_simp; exact rfl)
                           try simp only [Act.put, List.setIfInBounds_toArray, List.set_cons_zero, List.set_cons_succ])
                    refine wpQuiet_nil ?_
                    intro wq hq
                    subst hq
                    go_wp2
                    exact ⟨⟨j + 1, by omega, by go_num, sq⟩, by simp [intOf]; omega⟩
                · obtain rfl : j = 5 := by omega
                  go_wp2
                  exact ⟨⟨i + 1, cutV L2 xs, la2, _, by omega, by omega, by go_num, sj, inv7⟩, by simp [intOf]; omega⟩
        · have hti' : decide ((i : Int) ≥ ts.length) = true := by simp; omega
          have hti2 : decide ((ts.length : Int) ≤ (i : Int)) = true := by simp; omega
          have hti3 : decide (ts.length ≤ i) = true := by simp; omega
          go_wp2
          exact ⟨⟨i + 1, L2, la2, se2, by omega, by omega, by go_num, st6, inv6⟩, by simp [intOf]; omega⟩
    · have hend : i = ops.length ∨ (i < ops.length ∧ i = 60) := by omega
      have hl2 : L.length ≤ 8796093022208 := by rw [inv.len]; have := cnt_le se 5; omega
      obtain ⟨c1, c2'⟩ := due_all (t := 9223372036854775807) inv.nod (fun d hd => by
        obtain ⟨m, h1, h2, h3, h4⟩ := (inv.mem d.1 d.2).1 hd
        rw [← h4]; exact (st.ok m).2)
      have c34 := at_due st.at_ hl2 9223372036854775807
      rw [c2', c1, inv.len] at c34
      have hcnt := cnt_le se 5
      obtain ⟨w8, rfl⟩ : ∃ w8, w8 = wr := ⟨wr, rfl⟩
      have hgo2 : ∃ b : Bool, (decide (i < ops.length) = b) ∧ (b = true → i = 60) := by
        rcases hend with h | h
        · exact ⟨false, by simp; omega, by simp⟩
        · exact ⟨true, by simp; omega, fun _ => h.2⟩
      obtain ⟨b, hb, hb60⟩ := hgo2
      cases b
      case false =>
        clear hb60
        go_upto_region 35 with (go_at_call 10; (refine c34.mono ?_); rintro e w9 ⟨A9, c9, rfl, -, h9, p9⟩)
        have st9 := st.step (h9.drop fun q hq => by simp at hq ⊢; rcases hq with rfl | rfl | rfl <;> simp) p9
        clear st c34 h9 p9 c1 c2'
        go_wp2
        go_loopw [17, 18] (fun s17 s18 wr => ∃ j : Nat, j ≤ 5 ∧ s17 = .int .i64 (cnt se j : Int) ∧ s18 = .int .i64 (j : Int) ∧ OnSt w wr g bn bl bs _ [] la se) (fun _ s18 _ => 5 - (intOf s18).toNat)
        case atStart => exact ⟨0, by omega, rfl, rfl, st9⟩
        case round =>
          obtain ⟨j, hj, rfl, rfl, sj⟩ := hrel
          by_cases hj5 : j < 5
          · have hj5' : (j : Int) < 5 := by omega
            have hj0 : (0 : Int) ≤ j := by omega
            obtain ⟨-, -, y2⟩ := sj.cells hj5
            have hcj := cnt_le se j
            have hcs := cnt_succ se j
            cases hse : se j
            · rw [hse] at y2 hcs
              go_wp2
              exact ⟨⟨j + 1, by omega, by rw [hcs]; rfl, by go_num, sj⟩, by simp [intOf]; omega⟩
            · rw [hse] at y2 hcs
              go_wp2
              exact ⟨⟨j + 1, by omega, by rw [hcs]; go_num, by go_num, sj⟩, by simp [intOf]; omega⟩
          · obtain rfl : j = 5 := by omega
            have d1 := at_len sj.at_
            have d2 := at_due sj.at_ (by simp) 9223372036854775807
            have e1 : (dueR 9223372036854775807 ([] : List (Key × Int)).length []).length = 0 := rfl
            rw [e1] at d2
            go_wp2_with (first
              | (go_at_call 10; (with_reducible refine d2.mono ?_); rintro e w11 ⟨A8, c8, rfl, -, h8, -⟩)
              | (go_at_call 17; (with_reducible refine d1.mono ?_); rintro e w10 ⟨rfl, rfl⟩))
            go_ret
            exact ⟨rfl, h8.frame⟩
      case true =>
        (have h60 := hb60 rfl; have h61 : decide (i < 60) = false := decide_eq_false (by omega); have h62 : decide ((i : Int) < 60) = false := decide_eq_false (by omega); clear h60 hb60)
        go_upto_region 35 with (go_at_call 10; (refine c34.mono ?_); rintro e w9 ⟨A9, c9, rfl, -, h9, p9⟩)
        have st9 := st.step (h9.drop fun q hq => by simp at hq ⊢; rcases hq with rfl | rfl | rfl <;> simp) p9
        clear st c34 h9 p9 c1 c2'
        go_wp2
        go_loopw [17, 18] (fun s17 s18 wr => ∃ j : Nat, j ≤ 5 ∧ s17 = .int .i64 (cnt se j : Int) ∧ s18 = .int .i64 (j : Int) ∧ OnSt w wr g bn bl bs _ [] la se) (fun _ s18 _ => 5 - (intOf s18).toNat)
        case atStart => exact ⟨0, by omega, rfl, rfl, st9⟩
        case round =>
          obtain ⟨j, hj, rfl, rfl, sj⟩ := hrel
          by_cases hj5 : j < 5
          · have hj5' : (j : Int) < 5 := by omega
            have hj0 : (0 : Int) ≤ j := by omega
            obtain ⟨-, -, y2⟩ := sj.cells hj5
            have hcj := cnt_le se j
            have hcs := cnt_succ se j
            cases hse : se j
            · rw [hse] at y2 hcs
              go_wp2
              exact ⟨⟨j + 1, by omega, by rw [hcs]; rfl, by go_num, sj⟩, by simp [intOf]; omega⟩
            · rw [hse] at y2 hcs
              go_wp2
              exact ⟨⟨j + 1, by omega, by rw [hcs]; go_num, by go_num, sj⟩, by simp [intOf]; omega⟩
          · obtain rfl : j = 5 := by omega
            have d1 := at_len sj.at_
            have d2 := at_due sj.at_ (by simp) 9223372036854775807
            have e1 : (dueR 9223372036854775807 ([] : List (Key × Int)).length []).length = 0 := rfl
            rw [e1] at d2
            go_wp2_with (first
              | (go_at_call 10; (with_reducible refine d2.mono ?_); rintro e w11 ⟨A8, c8, rfl, -, h8, -⟩)
              | (go_at_call 17; (with_reducible refine d1.mono ?_); rintro e w10 ⟨rfl, rfl⟩))
            go_ret
            exact ⟨rfl, h8.frame⟩
end Go.Proofs.Ytkclpkepmckjgaa
