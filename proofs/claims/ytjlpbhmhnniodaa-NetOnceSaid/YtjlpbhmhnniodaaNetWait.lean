/- Waits. -/
import Derived.Test.YtjlpbhmhnniodaaNetPick
namespace Go.Proofs.Ytjlpbhmhnniodaa
open Go.RowKit Go.Maps
open Nt
def Nt.wantB (D : List (Pair × Unit)) (to : List Int) (m : Msg) : Bool := joinB D m.src m.dst && (to.isEmpty || to.contains m.dst)
set_option maxHeartbeats 2000000 in
theorem waitsF_any (w : World) (m : Msg) (b c g : Nat) (F : List Nat) (made : Int) (ms : List Msg) (D : List (Pair × Unit)) (hN : NetIs w g F made ms D) (hm1 : okI m.src) (hm2 : okI m.dst)
    (hb : b < w.heap.size) (hcb : w.cell? ⟨b, 0, none⟩ = some (.pointer (some ⟨g, 0, none⟩))) (hc : c < w.heap.size) (A : Option Addr) (cp : Nat) (to : List Int) (hcc : w.cell? ⟨c, 0, none⟩ = some (.slice A to.length cp))
    (hA : ARow w w.heap.size A (to.map (Value.int .i64))) (hl : to.length ≤ 1000000) :
    Calls Try.prog 25 #[m.val, .pointer (some ⟨b, 0, none⟩), .pointer (some ⟨c, 0, none⟩)] w fun e w' => e = .returned (.bool (!wantB D to m)) ∧ Fr w.heap.size [] w w' := by
  have hF := (Fr.refl w.heap.size [] w).alloc (Nat.le_refl _) (.cells #[.int .i64 m.n, .int .i64 m.src, .int .i64 m.dst, .string m.body] 34)
  have hV : Has (w.alloc (.cells #[.int .i64 m.n, .int .i64 m.src, .int .i64 m.dst, .string m.body] 34)) w.heap.size 34 [.int .i64 m.n, .int .i64 m.src, .int .i64 m.dst, .string m.body] := Has.new w _ _
  have cb := (hF.cell (p := ⟨b, 0, none⟩) hb (by simp)).trans hcb
  have hj := joined_any _ g F made ms D (hN.fr0 hF) m.src m.dst hm1 hm2
  unfold wantB
  obtain ⟨jb, hjb⟩ : ∃ jb, joinB D m.src m.dst = jb := ⟨_, rfl⟩
  rw [hjb] at hj ⊢
  have hcall := fun W (hW : Fr w.heap.size [] w W) => hasInt_any W A cp to m.dst ((hA.fr hW (Nat.le_refl _) (by simp)).mono hW.size) (by omega)
  unfold Msg.val
  cases jb
  · go_enter Try.func25, Try.ntmps25
    go_wp2_with (go_at_call 12; (refine hj.mono ?_); rintro e w2 ⟨rfl, f2⟩; have g2 := hF.trans (f2.mono hF.size (by simp)))
    go_ret
    exact ⟨rfl, g2⟩
  · cases to with
    | nil =>
      go_enter Try.func25, Try.ntmps25
      go_wp2_with (go_at_call 12; (refine hj.mono ?_); rintro e w2 ⟨rfl, f2⟩; have g2 := hF.trans (f2.mono hF.size (by simp)); have c2 := (g2.cell (p := ⟨c, 0, none⟩) hc (by simp)).trans hcc)
      go_ret
      exact ⟨rfl, g2⟩
    | cons t ts =>
      obtain ⟨n, hn⟩ : ∃ n, Hid (n = (t :: ts).length) := ⟨_, rfl⟩
      have hn0 : (0 : Int) < (n : Int) := by rw [hn.out, List.length_cons]; omega
      obtain ⟨hb2, hhb⟩ : ∃ hb2, (t :: ts).contains m.dst = hb2 := ⟨_, rfl⟩
      rw [hhb] at hcall ⊢
      rw [← hn.out] at hcall hcc
      rw [show (t :: ts).isEmpty = false from rfl]
      go_enter Try.func25, Try.ntmps25
      go_wp2_with (first
        | (go_at_call 26; (refine (hcall w2 g2).mono ?_); rintro e w3 ⟨rfl, rfl⟩)
        | (go_at_call 12; (refine hj.mono ?_); rintro e w2 ⟨rfl, f2⟩; have g2 := hF.trans (f2.mono hF.size (by simp)); have c2 := (g2.cell (p := ⟨c, 0, none⟩) hc (by simp)).trans hcc; have v2 : w2.cell? ⟨w.heap.size, 2, none⟩ = some (.int .i64 m.dst) := (hV.fr f2 hV.lt (by simp)).cell 2))
      go_ret
      exact ⟨by cases hb2 <;> rfl, g2⟩
set_option maxHeartbeats 1000000 in
theorem waits_nil (w : World) (A : Option Addr) (n c : Nat) :
    Calls Try.prog 14 #[.pointer none, .slice A n c] w fun e w' => e = .returned (.slice none 0 0) ∧ Fr w.heap.size [] w w' := by
  go_enter Try.func14, Try.ntmps14
  go_wp2
  go_ret
  exact ⟨rfl, ((Fr.refl w.heap.size [] w).alloc (Nat.le_refl _) _).alloc (by simp) _⟩
theorem Nt.NetIs.row {w : World} {g : Nat} {F : List Nat} {made : Int} {ms : List Msg} {D : List (Pair × Unit)} (h : NetIs w g F made ms D) : ∃ sl mp, Has w g 46 [.int .i64 made, sl, mp] ∧ w.ownsRow 0 34 4 sl ms.length (ms.flatMap Msg.cells) ∧ (∀ k, sl.ownBlock = some k → k ∈ F) ∧ ∃ A cp, sl = .slice A ms.length cp := by
  obtain ⟨sl, mp, h1, h2, h3, _⟩ := h.ex
  refine ⟨sl, mp, h1, h2, h3, ?_⟩
  rcases h2.2 with ⟨rfl, h0⟩ | ⟨gb, cap, cur, rfl, _⟩
  · exact ⟨none, 0, by rw [h0]⟩
  · exact ⟨_, _, rfl⟩
set_option maxHeartbeats 2000000 in
theorem waits_any (w : World) (g : Nat) (F : List Nat) (made : Int) (ms : List Msg) (D : List (Pair × Unit)) (hN : NetIs w g F made ms D) (hms : ms.length ≤ 1000000) (A : Option Addr) (cp : Nat) (to : List Int)
    (hA : ARow w w.heap.size A (to.map (Value.int .i64))) (hl : to.length ≤ 1000000) :
    Calls Try.prog 14 #[.pointer (some ⟨g, 0, none⟩), .slice A to.length cp] w fun e w' => ∃ v', e = .returned v' ∧ w'.ownsRow w.heap.size 34 4 v' (ms.filter (wantB D to)).length ((ms.filter (wantB D to)).flatMap Msg.cells) ∧ Fr w.heap.size [] w w' := by
  obtain ⟨sl, mp, h1, h2, h3, As, cs, rfl⟩ := hN.row
  obtain ⟨W1, hW1⟩ : ∃ W1, ((w.alloc (.cells #[.pointer (some ⟨g, 0, none⟩)] 24)).alloc (.cells #[.slice A to.length cp] 27)) = W1 := ⟨_, rfl⟩
  have hF1 : Fr w.heap.size [] w W1 := by rw [← hW1]; exact ((Fr.refl w.heap.size [] w).alloc (Nat.le_refl _) _).alloc (by simp) _
  have hs1 : W1.heap.size = w.heap.size + 1 + 1 := by rw [← hW1]; simp
  have hb : Has W1 w.heap.size 24 [.pointer (some ⟨g, 0, none⟩)] := by rw [← hW1]; exact (Has.new w 24 _).alloc _
  have hc : Has W1 (w.heap.size + 1) 27 [.slice A to.length cp] := by rw [← hW1]; exact Has.new' (w.alloc _) 27 _ (by simp)
  have cb : W1.cell? ⟨w.heap.size, 0, none⟩ = some (.pointer (some ⟨g, 0, none⟩)) := hb.cell 0
  have hN1 := hN.fr0 hF1
  have hgl := hN.lt g hN.self
  have cg : W1.cell? ⟨g, 1, none⟩ = some (.slice As ms.length cs) := (h1.fr hF1 hgl (by simp)).cell 1
  have hrow := ownsRow_fr h2 (fun k hk => ⟨hN.lt k (h3 k hk), by simp⟩) hF1
  have hcl := clone_any W1 0 _ ms hrow hms
  have hdel : ∀ w2 v', w2.ownsRow W1.heap.size 34 4 v' ms.length (ms.flatMap Msg.cells) → Fr W1.heap.size [] W1 w2 → Calls Try.prog 23 #[v', .func (.func 25) #[] #[.pointer (some ⟨w.heap.size, 0, none⟩), .pointer (some ⟨w.heap.size + 1, 0, none⟩)]] w2 fun e w' => ∃ v2, e = .returned v2 ∧ w'.ownsRow w.heap.size 34 4 v2 (ms.filter (wantB D to)).length ((ms.filter (wantB D to)).flatMap Msg.cells) ∧ Fr w.heap.size [] w w' := by
    intro w2 v' hown f2
    have hob : ∀ k, v'.ownBlock = some k → W1.heap.size ≤ k := fun k hk => by
      rcases hown.2 with ⟨rfl, _⟩ | ⟨gb, cap, cur, rfl, hbb, _⟩
      · cases hk
      · cases hk; exact hbb
    have hns : ∀ k, k < W1.heap.size → k ∉ v'.ownBlock.toList := fun k hk hm => by
      cases ho : v'.ownBlock with
      | none => rw [ho] at hm; simp at hm
      | some j => rw [ho] at hm; simp at hm; subst hm; have := hob _ ho; omega
    have hs2 := f2.size
    have := delMsg_any w2 W1.heap.size v' ms 25 #[.pointer (some ⟨w.heap.size, 0, none⟩), .pointer (some ⟨w.heap.size + 1, 0, none⟩)] (fun m => !wantB D to m) (Go.Proofs.enters_of Try.func25 (by kernel_rfl) rfl) hown (by omega)
      (fun W hW m hm => by
        have hWl : W1.heap.size ≤ W.heap.size := Nat.le_trans hs2 hW.size
        have hF : Fr W1.heap.size [] W1 W := ⟨hW.os.trans f2.os, hW.tape.trans f2.tape, hW.output.trans f2.output, hWl, fun k hk _ => (hW.block k (by omega) (hns k hk)).trans (f2.block k hk (by simp))⟩
        have hFw : Fr w.heap.size [] w W := hF1.trans (hF.mono hF1.size (by simp))
        exact waitsF_any W m w.heap.size (w.heap.size + 1) g F made ms D (hN.fr0 hFw) (hN.msgs m hm).2.1 (hN.msgs m hm).2.2 (by omega) ((hF.cell (p := ⟨w.heap.size, 0, none⟩) (show w.heap.size < _ by omega) (by simp)).trans cb) (by omega) A cp to ((hF.cell (p := ⟨w.heap.size + 1, 0, none⟩) (show w.heap.size + 1 < _ by omega) (by simp)).trans (hc.cell 0)) ((hA.fr hFw (Nat.le_refl _) (by simp)).mono hFw.size) hl)
    simp only [Bool.not_not] at this
    refine this.mono fun e w' ⟨v2, he, ho, hb2, hf⟩ => ⟨v2, he, ⟨ho.1, ?_⟩, ?_⟩
    · rcases ho.2 with h | ⟨gb, cap, cur, h, hbb, r⟩
      · exact .inl h
      · exact .inr ⟨gb, cap, cur, h, by omega, r⟩
    · have hF : Fr W1.heap.size [] W1 w' := ⟨hf.os.trans f2.os, hf.tape.trans f2.tape, hf.output.trans f2.output, Nat.le_trans hs2 hf.size, fun k hk _ => (hf.block k (by omega) (hns k hk)).trans (f2.block k hk (by simp))⟩
      exact hF1.trans (hF.mono hF1.size (by simp))
  clear hN1 hrow hA hN h1 h2 hb hc
  go_enter Try.func14, Try.ntmps14
  go_wp2_with (first
    | (go_at_call 23; (refine (hdel w2 v' hown f2).mono ?_); rintro e w3 ⟨v2, rfl, ho, f3⟩)
    | (go_at_call 24; (refine hcl.mono ?_); rintro e w2 ⟨v', rfl, hown, f2⟩))
  go_ret
  exact ⟨v2, rfl, ho, f3⟩
end Go.Proofs.Ytjlpbhmhnniodaa
