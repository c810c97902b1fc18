/- What the bound on the bulk gives for clocks. -/
import Derived.Test.YtaglginhaofgeaaBulk
import Derived.Test.YtaglginhaofgeaaClkOpens
namespace Go.Proofs.Ytaglginhaofgeaa
open Ck
theorem lenD_bulk {H : Type} (d : DataW H) : lenD d ≤ Rows.uptoBulk d := by
  cases d with
  | slice e sp =>
    have h1 := bulk_len e
    have h2 := bulk_slice e sp
    show e.length ≤ _
    omega
  | _ => exact Nat.zero_le _
theorem bulk_agg {H : Type} (ps : List (DataW H)) : Rows.uptoBulkAll ps ≤ Rows.uptoBulk (.agg ps) := by
  simp only [Rows.uptoBulk]; omega
theorem bulk_at {H : Type} {l : List (DataW H)} {d : DataW H} (hk : Rows.uptoSmall H l = true) (h : d ∈ l) : Rows.uptoBulk d ≤ 1048576 := Nat.le_trans (bulk_part h) (bulk_bound hk)
theorem lenD_at {H : Type} {l : List (DataW H)} {d : DataW H} (hk : Rows.uptoSmall H l = true) (h : d ∈ l) : lenD d ≤ 1048576 := Nat.le_trans (lenD_bulk d) (bulk_at hk h)
theorem lenD_part {H : Type} {l ps : List (DataW H)} {d : DataW H} (hk : Rows.uptoSmall H l = true) (h : DataW.agg ps ∈ l) (hd : d ∈ ps) : lenD d ≤ 1048576 :=
  Nat.le_trans (Nat.le_trans (lenD_bulk d) (bulk_part hd)) (Nat.le_trans (bulk_agg ps) (bulk_at hk h))
theorem str_at {H : Type} {l : List (DataW H)} {s : ByteArray} (hk : Rows.uptoSmall H l = true) (h : DataW.lit (.string s.data.toList) ∈ l) : s.size ≤ 1048576 := by
  have h1 := bulk_at hk h
  have h2 : s.data.toList.length + 1 ≤ 1048576 := h1
  have h3 : s.data.toList.length = s.size := by simp
  omega
end Go.Proofs.Ytaglginhaofgeaa
