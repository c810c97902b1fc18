/- Append: the plain state; the walk. -/
import Derived.Test.YtcfbbembggnanaaFilPutP
import Derived.Deep.CutRange
namespace Go.Proofs.Ytcfbbembggnanaa
open Go.RowKit Go.Maps
abbrev FP := List (Key × Fl)
def appP (P : FP) (x : Key) (dl : List UInt8) : FP := if x ∈ P.map Prod.fst then P.map (fun d => if d.1 = x then (x, ⟨d.2.bs ++ dl, d.2.firm⟩) else d) else P ++ [(x, ⟨dl, 0⟩)]
def usedP (P : FP) : Nat := (P.map fun d => d.2.bs.length).sum
theorem used_plain (D : FD) : usedN D = usedP (plainL D) := by
  unfold usedN usedP plainL
  rw [List.map_map]
  rfl
theorem len_plain (D : FD) : (plainL D).length = D.length := by simp [plainL]
theorem bs_le {D : FD} {d : Key × (Nat × Fl)} (h : d ∈ D) : d.2.2.bs.length ≤ usedN D := by
  unfold usedN
  induction D with
  | nil => simp at h
  | cons c D ih =>
    rw [List.map_cons, List.sum_cons]
    rcases List.mem_cons.1 h with rfl | h
    · omega
    · have := ih h; omega
theorem strV_app (a b : List UInt8) (s t : ByteArray) (hs : strV a = .string s) (ht : strV b = .string t) : Value.string (s ++ t) = strV (a ++ b) := by
  unfold strV at *
  injection hs with hs
  injection ht with ht
  rw [← hs, ← ht]
  congr 1
/-- No room. -/
def fullB (room : Int) (D : FD) (x : Key) (n : Nat) : Bool := ((getL D x).isNone && decide (256 ≤ D.length)) || decide (room - usedN D < n)
theorem fm_len {w : World} {mp : Value} {F : List Nat} {M : List (Key × Nat)} (h : FMap w mp F M) (ty : TypeId) : (Builtin.len_ #[43] ty #[mp]).run Try.prog w = .ok (.int .i64 M.length) w := by
  rcases h with ⟨rfl, rfl⟩ | ⟨b, rfl, h, _⟩
  · exact Maps.len_nil Try.underlying43 ty
  · obtain ⟨es, clock, h1, h2, _⟩ := h
    have hlen : es.size = M.length := by simpa using congrArg List.length h2
    simp [Builtin.len_, run_underlying Try.underlying43, MapKept.run_getObj_map h1, goInt, Result.andThen, hlen]
theorem DkIs.more {w : World} {g : Nat} {F F2 : List Nat} {room left steps : Int} {on : Bool} {D : FD} (h : DkIs w g F room left steps on D) (hs : ∀ q ∈ F, q ∈ F2) (hl : ∀ k ∈ F2, k < w.heap.size) : DkIs w g F2 room left steps on D := by
  obtain ⟨mp, h1, h4⟩ := h.ex
  exact ⟨⟨mp, h1, h4.imp id fun ⟨b, e1, e2, e3⟩ => ⟨b, e1, e2, hs b e3⟩⟩, fun d hd => ⟨(h.files d hd).1, hs _ (h.files d hd).2⟩, h.apart, h.nod, hs g h.self, hl⟩
/-- What Append gives. -/
def AppPost (w : World) (g : Nat) (F : List Nat) (room left steps : Int) (on : Bool) (D : FD) (x : Key) (dl : List UInt8) (e : Ending) (w' : World) : Prop :=
  (askE on [x] ≠ 0 ∧ e = .returned (.int .i64 (askE on [x])) ∧ Fr w.heap.size [] w w') ∨
  (askE on [x] = 0 ∧ fullB room D x dl.length = true ∧ e = .returned (.int .i64 22) ∧ Fr w.heap.size [] w w') ∨
  (askE on [x] = 0 ∧ fullB room D x dl.length = false ∧ e = .returned (.int .i64 (if left = 1 then 23 else 0)) ∧ ∃ F' D', DkIs w' g F' room (leftE left) (steps + 1) (left != 1) D' ∧ plainL D' = appP (plainL D) x dl ∧ Fr w.heap.size F w w' ∧ ∀ q ∈ F', q ∈ F ∨ w.heap.size ≤ q)
section
variable {w : World} {g : Nat} {F : List Nat} {room left steps : Int} {on : Bool} {D : FD}
set_option maxRecDepth 100000 in
set_option maxHeartbeats 4000000 in
theorem append_any (hd : DkIs w g F room left steps on D) (x : Key) (A : Option Addr) (n c : Nat) (dl : List UInt8) (hdl : dl.length ≤ 140737488355328) (hu : usedN D ≤ 16777216) (hroom : 0 ≤ room ∧ room ≤ 16777216) (hl0 : 0 ≤ left) (hl1 : left ≤ 9223372036854775807) (hs0 : 0 ≤ steps) (hs1 : steps ≤ 4611686018427387904)
    (hJ : ∀ W, Fr w.heap.size [] w W → Calls Try.prog 26 #[.slice A n c, .string ⟨#[]⟩] W fun e w' => e = .returned (strV dl) ∧ Fr W.heap.size [] W w') :
    Calls Try.prog 11 #[.pointer (some ⟨g, 0, none⟩), KV x, .slice A n c] w (AppPost w g F room left steps on D x dl) := by
  obtain ⟨s, hs⟩ : ∃ s : ByteArray, KV x = .string s := ⟨_, rfl⟩
  have f1 : Fr w.heap.size [] w (w.alloc (.cells #[.string s] 9)) := (Fr.refl _ _ _).alloc (Nat.le_refl _) _
  have d1 := hd.fr0 f1
  have hrow := lit_row w [x]
  simp only [List.map_cons, List.map_nil, hs] at hrow
  have ha := ask_any d1 (some ⟨w.heap.size, 0, none⟩) 1 [x] (by simp only [List.map_cons, List.map_nil, hs]; exact hrow) (by simp)
  obtain ⟨a, ha2⟩ : ∃ a, askE on [x] = a := ⟨_, rfl⟩
  rw [ha2] at ha
  simp only [List.length_cons, List.length_nil, Nat.zero_add] at ha
  rw [hs]
  by_cases ha0 : a = 0
  · subst ha0
    obtain ⟨mp, h1, h2⟩ := d1.ex
    have c0 : (w.alloc (.cells #[.string s] 9)).cell? ⟨g, 0, none⟩ = some mp := h1.cell 0
    have hl := fm_look h2 x
    rw [get_map, hs] at hl
    obtain ⟨q, hq⟩ : ∃ q, (getL D x).map (·.1) = q := ⟨_, rfl⟩
    rw [hq] at hl
    obtain ⟨fv, hfv⟩ : ∃ fv : Option Addr, ptrV q = .pointer fv ∧ (fv = none ↔ q = none) := by
      cases q with
      | none => exact ⟨none, rfl, by simp⟩
      | some b => exact ⟨some ⟨b, 0, none⟩, rfl, by simp⟩
    rw [hfv.1] at hl
    obtain ⟨sd, hsd⟩ : ∃ sd : ByteArray, strV dl = .string sd := ⟨_, rfl⟩
    have hj := hJ _ f1
    rw [hsd] at hj
    go_enter Try.func11, Try.ntmps11
    go_upto_region 6 with (first
      | (go_at_call 26; (refine hj.mono ?_); rintro e w3 ⟨rfl, f3⟩)
      | (go_at_call 25; (refine ha.mono ?_); rintro e w2 ⟨rfl, rfl⟩))
    have f2 : Fr w.heap.size [] w w3 := f1.trans (f3.mono f1.size (by simp))
    have d3 := d1.fr0 f3
    go_cut [46] from 25 to 45 (fun s46 wc => s46 = .bool (fullB room D x dl.length) ∧ Fr w3.heap.size [] w3 wc)
    case first =>
      obtain ⟨mp3, k1, k2⟩ := d3.ex
      have e0 : w3.cell? ⟨g, 0, none⟩ = some mp3 := k1.cell 0
      have e1 : w3.cell? ⟨g, 1, none⟩ = some (.int .i64 room) := k1.cell 1
      have hml := fm_len k2
      have hsdl : sd.size = dl.length := by unfold strV at hsd; injection hsd with hsd; rw [← hsd]; exact strV_len dl
      have hw : IntKind.i64.wrap (room - (usedN D : Int)) = room - usedN D := IntWalk.i64_in _ (by omega)
      have hU := used_any (d3.fr0 ((Fr.refl _ _ _).drew)) (by omega)
      have hlq : (getL D x).isNone = q.isNone := by rw [← hq]; cases getL D x <;> rfl
      obtain ⟨b2, hb2⟩ : ∃ b2, decide (room - usedN D < dl.length) = b2 := ⟨_, rfl⟩
      have hb2' : decide ((dl.length : Int) > room - usedN D) = b2 := hb2
      have hml2 : (mapD D).length = D.length := by simp [mapD]
      obtain ⟨b1, hb1⟩ : ∃ b1, decide (256 ≤ D.length) = b1 := ⟨_, rfl⟩
      have hb1' : decide ((D.length : Int) ≥ 256) = b1 := by rw [← hb1]; congr 1; simp; omega
      have hb1'' : decide ((256 : Int) ≤ (D.length : Int)) = b1 := hb1'
      have hfull : fullB room D x dl.length = ((q.isNone && b1) || b2) := by unfold fullB; rw [hlq, hb1, hb2]
      rw [hml2] at hml
      replace hfull : Hid (fullB room D x dl.length = ((q.isNone && b1) || b2)) := hfull
      clear hb1 hml2 hlq hj ha hl hJ hq
      have hc1 : ∀ W, Fr w3.heap.size [] w3 W → W.cell? ⟨g, 1, none⟩ = some (.int .i64 room) ∧ W.cell? ⟨g, 0, none⟩ = some mp3 ∧ ∀ ty, (Builtin.len_ #[43] ty #[mp3]).run Try.prog W = .ok (.int .i64 D.length) W := fun W hW => by
        refine ⟨(hW.cell (p := ⟨g, 1, none⟩) k1.lt (by simp)).trans e1, (hW.cell (p := ⟨g, 0, none⟩) k1.lt (by simp)).trans e0, fun ty => ?_⟩
        have := fm_len (k2.fr d3.lt (by simp) hW) ty
        rw [show (mapD D).length = D.length by simp [mapD]] at this
        exact this
      have hu2 : usedN D ≤ 4611686018427387904 := by omega
      clear hml
      cases q with
      | some b =>
        obtain ⟨b3, rfl⟩ : ∃ a3, fv = some a3 := by cases fv with | none => exact absurd (hfv.2.1 rfl) (by simp) | some a3 => exact ⟨a3, rfl⟩
        clear hfv
        refine wp_region_class (fun W => Fr w3.heap.size [] w3 W) (by kernel_rfl) (by kernel_rfl) ((Fr.refl _ _ _).drew) ?_
        iterate 3
          refine wpQuiet_take (by rfl) ?_
          apply Exists.intro
          refine ⟨fun W hW => ?_, ?_⟩
          · first
              | (obtain ⟨t0, t1, t2⟩ := hc1 _ hW; go_simp; done)
              | (obtain ⟨t0, t1, t2⟩ := hc1 _ hW; go_simp; exact rfl)
              | (go_simp; (try refine ⟨rfl, ?_⟩); go_at_call 15; exact (used_any (d3.fr0 hW) hu2).mono fun e w' ⟨he, hf⟩ => ⟨he, hW.trans (hf.mono hW.size (by simp))⟩)
          try simp only [Act.put, List.setIfInBounds_toArray, List.set_cons_zero, List.set_cons_succ]
        iterate 6
          refine wpQuiet_skip (by rfl) ?_
          try simp only [Act.put, List.setIfInBounds_toArray, List.set_cons_zero, List.set_cons_succ]
        iterate 13
          refine wpQuiet_take (by rfl) ?_
          apply Exists.intro
          refine ⟨fun W hW => ?_, ?_⟩
          · first
              | (obtain ⟨t0, t1, t2⟩ := hc1 _ hW; go_simp; done)
              | (obtain ⟨t0, t1, t2⟩ := hc1 _ hW; go_simp; exact rfl)
              | (go_simp; (try refine ⟨rfl, ?_⟩); go_at_call 15; exact (used_any (d3.fr0 hW) hu2).mono fun e w' ⟨he, hf⟩ => ⟨he, hW.trans (hf.mono hW.size (by simp))⟩)
          try simp only [Act.put, List.setIfInBounds_toArray, List.set_cons_zero, List.set_cons_succ]
        refine wpQuiet_nil ?_
        intro wq hq
        go_wp2
        go_meet
        case rel => exact ⟨by rw [hfull.out]; simp, hq⟩
      | none =>
        obtain rfl : fv = none := hfv.2.2 rfl
        clear hfv
        cases b1
        · skip
          refine wp_region_class (fun W => Fr w3.heap.size [] w3 W) (by kernel_rfl) (by kernel_rfl) ((Fr.refl _ _ _).drew) ?_
          iterate 22
            refine wpQuiet_take (by rfl) ?_
            apply Exists.intro
            refine ⟨fun W hW => ?_, ?_⟩
            · first
                | (obtain ⟨t0, t1, t2⟩ := hc1 _ hW; go_simp; done)
                | (obtain ⟨t0, t1, t2⟩ := hc1 _ hW; go_simp; exact rfl)
                | (go_simp; (try refine ⟨rfl, ?_⟩); go_at_call 15; exact (used_any (d3.fr0 hW) hu2).mono fun e w' ⟨he, hf⟩ => ⟨he, hW.trans (hf.mono hW.size (by simp))⟩)
            try simp only [Act.put, List.setIfInBounds_toArray, List.set_cons_zero, List.set_cons_succ]
          refine wpQuiet_nil ?_
          intro wq hq
          go_wp2
          go_meet
          case rel => exact ⟨by rw [hfull.out]; simp, hq⟩
        · have hlq2 : ∀ q ty, (Builtin.len_ #[43] ty #[mp3]).run Try.prog (w3.drewN q) = .ok (.int .i64 D.length) (w3.drewN q) := fun q ty => (hc1 _ ((Fr.refl _ _ _).drewN q)).2.2 ty
          have hlq3 : ∀ ty, (Builtin.len_ #[43] ty #[mp3]).run Try.prog w3 = .ok (.int .i64 D.length) w3 := fun ty => (hc1 _ (Fr.refl _ _ _)).2.2 ty
          clear hc1 hU
          go_quiet (fail)
          go_wp2
          go_meet
          case rel => exact ⟨by rw [hfull.out]; simp, (Fr.refl _ _ _).drewN _⟩
    case rest =>
      obtain ⟨rfl, f4⟩ := hcut
      have d4 := d3.fr0 f4
      have f04 : Fr w.heap.size [] w wc := f2.trans (f4.mono f2.size (by simp))
      clear hJ hj ha hl d3 d1 h1 h2 c0 hrow
      cases hfb : fullB room D x dl.length
      · obtain ⟨mp4, k1, k2⟩ := d4.ex
        obtain ⟨mb, rfl⟩ : ∃ mb, mp4 = .map mb := by
          rcases k2 with ⟨rfl, _⟩ | ⟨m, rfl, _⟩
          · exact ⟨none, rfl⟩
          · exact ⟨some m, rfl⟩
        have e0 : wc.cell? ⟨g, 0, none⟩ = some (.map mb) := k1.cell 0
        have z0 := k1.frozen 0
        have hgl := k1.lt
        have q44 : ∀ (W : World) (r : Option Nat), (binOp .eql 43 (.map r) (.map none)).run Try.prog W = .ok (.bool r.isNone) W := fun W r => run_eql_map_nil W _ _ _ r Try.underlying43
        have hmk : ∀ W : World, (Instr.makeMap 43 none).run Try.prog W = .ok (.map (some W.heap.size)) (W.alloc (.map #[] 0)) := fun _ => rfl
        go_upto_if 51 with fail
        go_cut [] from 52 to 55 (fun wd => ∃ F' m, DkIs wd g F' room left steps on D ∧ wd.cell? ⟨g, 0, none⟩ = some (.map (some m)) ∧ MapIs KV PV wd m (mapD D) ∧ m ∈ F' ∧ Fr w.heap.size F w wd ∧ ∀ q ∈ F', q ∈ F ∨ w.heap.size ≤ q)
        case first =>
          rcases k2 with ⟨he, hD⟩ | ⟨m, he, hM, hmF⟩
          · injection he with he
            subst he
            have hD0 : D = [] := by unfold mapD at hD; simpa using hD
            subst hD0
            go_wp2
            go_meet
            case rel =>
              have hfF := (f04.mono (Nat.le_refl _) (fun _ h _ => absurd h (by simp)) : Fr w.heap.size F w wc).setCell (p := ⟨g, 0, none⟩) (.inl hd.self) (.map (some wc.heap.size))
              have hM := MapIs.new (encK := KV) (encV := PV) (wc.setCell ⟨g, 0, none⟩ (.map (some wc.heap.size)))
              have hz : (wc.setCell ⟨g, 0, none⟩ (.map (some wc.heap.size))).heap.size = wc.heap.size := by simp
              rw [hz] at hM
              have hH := (k1.set 0 (.map (some wc.heap.size))).alloc (.map #[] 0)
              have hsz := f04.size
              refine ⟨wc.heap.size :: F, wc.heap.size, ⟨⟨_, hH, .inr ⟨wc.heap.size, rfl, hM, by simp⟩⟩, by simp, by simp, by simp, by simp [hd.self], fun k hk => ?_⟩, hH.cell 0, hM, by simp, hfF.alloc hfF.size _, fun q hq => ?_⟩
              · rcases List.mem_cons.1 hk with rfl | hk
                · simp
                · have := hd.lt k hk; simp; omega
              · rcases List.mem_cons.1 hq with rfl | hq
                · exact .inr hsz
                · exact .inl hq
          · injection he with he
            subst he
            go_wp2
            go_meet
            case rel => exact ⟨F, m, d4, e0, hM, hmF, f04.mono (Nat.le_refl _) (by simp), fun q hq => .inl hq⟩
        case rest =>
          obtain ⟨F', m, d5, c5, M5, m5, f5, F5⟩ := hcut
          have hsdl : sd.size = dl.length := by unfold strV at hsd; injection hsd with hsd; rw [← hsd]; exact strV_len dl
          clear e0 z0 k1 k2 d4 f04 f4 f2 f1 f3 q44 hmk
          cases q with
          | some b =>
            obtain ⟨⟨b', fl⟩, hz⟩ : ∃ z, getL D x = some z := by cases h : getL D x with | none => rw [h] at hq; cases hq | some z => exact ⟨z, rfl⟩
            rw [hz] at hq
            simp only [Option.map_some, Option.some.injEq] at hq
            subst hq
            obtain rfl : fv = some ⟨b', 0, none⟩ := by
              have := hfv.1
              simp only [ptrV, PV, Value.pointer.injEq] at this
              exact this.symm
            have hmem : (x, (b', fl)) ∈ D := lookup_in hz
            obtain ⟨h5, h6⟩ := d5.files _ hmem
            simp only at h5 h6
            have hble := bs_le hmem
            simp only at hble
            obtain ⟨S1, hS1⟩ : ∃ S1 : ByteArray, strV fl.bs = .string S1 := ⟨_, rfl⟩
            have hS1l : S1.size = fl.bs.length := by unfold strV at hS1; injection hS1 with hS1; rw [← hS1]; exact strV_len fl.bs
            have y0 : wc.cell? ⟨b', 0, none⟩ = some (.string S1) := by rw [← hS1]; exact h5.cell 0
            have z0 := h5.frozen 0
            have hsum : ¬ (9223372036854775807 < S1.size + sd.size) := by omega
            have hv := strV_app fl.bs dl S1 sd hS1 hsd
            have hcw : Has (wc.setCell ⟨b', 0, none⟩ (.string (S1 ++ sd))) b' 52 (flC x ⟨fl.bs ++ dl, fl.firm⟩) := by
              have := h5.set 0 (.string (S1 ++ sd))
              rw [hv] at this ⊢
              exact this
            have o6 := (One.refl b' wc).setCell 0 (.string (S1 ++ sd))
            have d6 := d5.file hmem o6 ⟨fl.bs ++ dl, fl.firm⟩ hcw
            clear hcw hv
            go_upto_region 14 with fail
            generalize wc.setCell ⟨b', 0, none⟩ (.string (S1 ++ sd)) = w6 at d6 o6 ⊢
            have hst := step_any d6 hl0 hl1 hs0 (by omega)
            have hpl := plain_grow D x b' fl dl hd.nod hmem
            have hap : appP (plainL D) x dl = (plainL D).map fun d => if d.1 = x then (x, (⟨d.2.bs ++ dl, d.2.firm⟩ : Fl)) else d := by
              have hin : x ∈ (plainL D).map Prod.fst := by unfold plainL; rw [List.map_map]; exact List.mem_map.2 ⟨_, hmem, rfl⟩
              unfold appP
              rw [if_pos hin]
            rw [← hap] at hpl
            have hfr : ∀ w7, One g w6 w7 → Fr w.heap.size F w w7 := fun w7 o7 => (f5.one o6 (F5 b' h6)).one o7 (.inl hd.self)
            obtain ⟨bl, hbl⟩ : ∃ bl, (left != 1) = bl := ⟨_, rfl⟩
            have hif : (if left = 1 then (23 : Int) else 0) = if bl then 0 else 23 := by
              rw [← hbl]
              by_cases h1 : left = 1 <;> simp [h1]
            rw [hbl] at hst
            cases bl
            · go_wp2_with (go_at_call 27; (refine hst.mono ?_); rintro e w7 ⟨rfl, d7, o7⟩)
              go_ret
              exact Or.inr (Or.inr ⟨ha2, hfb, by rw [hif]; rfl, F', _, by rw [hbl]; exact d7, hpl, hfr _ o7, F5⟩)
            · go_wp2_with (go_at_call 27; (refine hst.mono ?_); rintro e w7 ⟨rfl, d7, o7⟩)
              go_ret
              exact Or.inr (Or.inr ⟨ha2, hfb, by rw [hif]; rfl, F', _, by rw [hbl]; exact d7, hpl, hfr _ o7, F5⟩)
          | none =>
            obtain rfl : fv = none := hfv.2.2 rfl
            have hz : getL D x = none := by cases h : getL D x with | none => rfl | some z => rw [h] at hq; cases hq
            have hno : ∀ d ∈ D, d.1 ≠ x := fun d hd' e => by
              have := get_of hd.nod hd'
              rw [e, hz] at this
              cases this
            have f6 := (Fr.refl wc.heap.size [] wc).alloc (Nat.le_refl _) (.cells #[.string ⟨#[]⟩, .int .i64 0, .string s] 52)
            have hnew := Has.new wc 52 [.string ⟨#[]⟩, .int .i64 0, .string s]
            have d6 : DkIs (wc.alloc (.cells #[.string ⟨#[]⟩, .int .i64 0, .string s] 52)) g (wc.heap.size :: F') room left steps on D := (d5.fr0 f6).more (fun q hq => List.mem_cons_of_mem _ hq) (fun k hk => by
              rcases List.mem_cons.1 hk with rfl | hk
              · simp
              · have := d5.lt k hk; simp; omega)
            obtain ⟨w7, r1, r2, r3⟩ := (M5.alloc (.cells #[.string ⟨#[]⟩, .int .i64 0, .string s] 52)).put strEnc Try.underlying43 (fun _ _ => trivial) (a := x) trivial wc.heap.size
            rw [hs] at r1
            unfold PV at r1
            have c6 : (wc.alloc (.cells #[.string ⟨#[]⟩, .int .i64 0, .string s] 52)).cell? ⟨g, 0, none⟩ = some (.map (some m)) := (f6.cell (p := ⟨g, 0, none⟩) (d5.lt g d5.self) (by simp)).trans c5
            have hflC : flC x ⟨[], 0⟩ = [.string ⟨#[]⟩, .int .i64 0, .string s] := by unfold flC; rw [hs]; rfl
            have d7 : DkIs w7 g (wc.heap.size :: F') room left steps on (D ++ [(x, (wc.heap.size, ⟨[], 0⟩))]) := by
              refine d6.remap c6 _ r3 (by rw [← putL_new_map D x wc.heap.size ⟨[], 0⟩ hz]; exact r2) (List.mem_cons_of_mem _ m5) ⟨_, M5.alloc _⟩ (fun d hd' => ?_) ?_ ?_
              · rcases List.mem_append.1 hd' with h8 | h8
                · exact d6.files d h8
                · simp only [List.mem_singleton] at h8
                  subst h8
                  exact ⟨by rw [hflC]; exact hnew, by simp⟩
              · rw [List.map_append, List.nodup_append]
                refine ⟨hd.apart, by simp, fun b hb c hc => ?_⟩
                simp at hc
                obtain ⟨d, hd', rfl⟩ := List.mem_map.1 hb
                have := d5.lt _ (d5.files d hd').2
                omega
              · rw [List.map_append, List.nodup_append]
                refine ⟨hd.nod, by simp, fun b hb c hc => ?_⟩
                simp at hc
                obtain ⟨d, hd', rfl⟩ := List.mem_map.1 hb
                rw [hc]
                exact hno d hd'
            have hmem : (x, (wc.heap.size, (⟨[], 0⟩ : Fl))) ∈ D ++ [(x, (wc.heap.size, ⟨[], 0⟩))] := by simp
            obtain ⟨h5, h6⟩ := d7.files _ hmem
            simp only at h5 h6
            rw [hflC] at h5
            have y0 : w7.cell? ⟨wc.heap.size, 0, none⟩ = some (.string ⟨#[]⟩) := h5.cell 0
            have z0 := h5.frozen 0
            have hsum : ¬ (9223372036854775807 < (⟨#[]⟩ : ByteArray).size + sd.size) := by
              have : (⟨#[]⟩ : ByteArray).size = 0 := rfl
              omega
            have hv := strV_app [] dl ⟨#[]⟩ sd rfl hsd
            have hcw : Has (w7.setCell ⟨wc.heap.size, 0, none⟩ (.string ((⟨#[]⟩ : ByteArray) ++ sd))) wc.heap.size 52 (flC x ⟨[] ++ dl, 0⟩) := by
              have h9 := h5.set 0 (.string ((⟨#[]⟩ : ByteArray) ++ sd))
              have h10 : ([.string ⟨#[]⟩, .int .i64 0, .string s] : List Value).set 0 (.string ((⟨#[]⟩ : ByteArray) ++ sd)) = flC x ⟨[] ++ dl, 0⟩ := by
                rw [hv]; unfold flC; rw [hs]; rfl
              rw [h10] at h9
              exact h9
            have o8 := (One.refl wc.heap.size w7).setCell 0 (.string ((⟨#[]⟩ : ByteArray) ++ sd))
            have d8 := d7.file hmem o8 ⟨[] ++ dl, 0⟩ hcw
            have hpl := plain_grow _ x wc.heap.size ⟨[], 0⟩ dl d7.nod hmem
            have hap : appP (plainL D) x dl = (plainL (D ++ [(x, (wc.heap.size, (⟨[], 0⟩ : Fl)))])).map fun d => if d.1 = x then (x, (⟨d.2.bs ++ dl, d.2.firm⟩ : Fl)) else d := by
              have hin : x ∉ (plainL D).map Prod.fst := by
                unfold plainL
                rw [List.map_map]
                intro h
                obtain ⟨d, hd', e⟩ := List.mem_map.1 h
                exact hno d hd' e
              unfold appP
              rw [if_neg hin]
              unfold plainL
              rw [List.map_append, List.map_append]
              congr 1
              · rw [List.map_map]
                refine (List.map_congr_left fun d hd' => ?_).symm
                simp only [Function.comp]
                rw [if_neg (hno d hd')]
              · simp
            rw [← hap] at hpl
            have hfr : ∀ w9 w8, One wc.heap.size w7 w8 → One g w8 w9 → Fr w.heap.size F w w9 := fun w9 w8 o8 o9 => (((f5.trans (f6.mono f5.size (by simp))).one r3 (F5 m m5)).one o8 (.inr f5.size)).one o9 (.inl hd.self)
            have hF9 : ∀ q ∈ wc.heap.size :: F', q ∈ F ∨ w.heap.size ≤ q := fun q hq => by
              rcases List.mem_cons.1 hq with rfl | hq
              · exact .inr f5.size
              · exact F5 q hq
            clear hcw hv hap hmem hflC h5 hnew d7
            go_upto_region 14 with fail
            generalize w7.setCell ⟨wc.heap.size, 0, none⟩ (.string ((⟨#[]⟩ : ByteArray) ++ sd)) = w8 at d8 o8 ⊢
            have hst := step_any d8 hl0 hl1 hs0 (by omega)
            obtain ⟨bl, hbl⟩ : ∃ bl, (left != 1) = bl := ⟨_, rfl⟩
            have hif : (if left = 1 then (23 : Int) else 0) = if bl then 0 else 23 := by
              rw [← hbl]
              by_cases h1 : left = 1 <;> simp [h1]
            rw [hbl] at hst
            cases bl
            · go_wp2_with (go_at_call 27; (refine hst.mono ?_); rintro e w9 ⟨rfl, d9, o9⟩)
              go_ret
              exact Or.inr (Or.inr ⟨ha2, hfb, by rw [hif]; rfl, _, _, by rw [hbl]; exact d9, hpl, hfr _ _ o8 o9, hF9⟩)
            · go_wp2_with (go_at_call 27; (refine hst.mono ?_); rintro e w9 ⟨rfl, d9, o9⟩)
              go_ret
              exact Or.inr (Or.inr ⟨ha2, hfb, by rw [hif]; rfl, _, _, by rw [hbl]; exact d9, hpl, hfr _ _ o8 o9, hF9⟩)
      · go_wp2
        go_ret
        exact Or.inr (Or.inl ⟨ha2, hfb, rfl, f04⟩)
  · have hab : (a == 0) = false := by simpa using ha0
    go_enter Try.func11, Try.ntmps11
    go_wp2_with (go_at_call 25; (refine ha.mono ?_); rintro e w2 ⟨rfl, rfl⟩)
    go_ret
    exact Or.inl ⟨by rw [ha2]; exact ha0, by rw [ha2]; rfl, f1⟩
end
end Go.Proofs.Ytcfbbembggnanaa
