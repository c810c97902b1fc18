/- The chapter's sums over whole numbers and lists: no program in sight. -/
import Derived.WalkKit
import Derived.Laws.BytesArg
namespace Go.Proofs.YtpboclafoccfnaaDoor
open Go.RowKit
namespace Sha

/-- x turned right by n bits. -/
def rotr (x : Int) (n : Nat) : Int := bits .or .u32 (x * 2 ^ (32 - n) % 4294967296) (x / 2 ^ n)
def s0 (x : Int) : Int := bits .xor .u32 (bits .xor .u32 (rotr x 7) (rotr x 18)) (x / 8)
def s1 (x : Int) : Int := bits .xor .u32 (bits .xor .u32 (rotr x 17) (rotr x 19)) (x / 1024)
def S1 (x : Int) : Int := bits .xor .u32 (bits .xor .u32 (rotr x 6) (rotr x 11)) (rotr x 25)
def S0 (x : Int) : Int := bits .xor .u32 (bits .xor .u32 (rotr x 2) (rotr x 13)) (rotr x 22)
def ch (e f g : Int) : Int := bits .xor .u32 (bits .and .u32 e f) (bits .and .u32 (bits .xor .u32 IntKind.u32.max e) g)
def maj (a b c : Int) : Int := bits .xor .u32 (bits .xor .u32 (bits .and .u32 a b) (bits .and .u32 a c)) (bits .and .u32 b c)

/-- Eight words. -/
structure St where
  a : Int
  b : Int
  c : Int
  d : Int
  e : Int
  f : Int
  g : Int
  h : Int
def St.ints (s : St) : List Int := [s.a, s.b, s.c, s.d, s.e, s.f, s.g, s.h]
def St.vals (s : St) : List Value := s.ints.map (Value.int .u32)
def St.start : St := ⟨1779033703, 3144134277, 1013904242, 2773480762, 1359893119, 2600822924, 528734635, 1541459225⟩

def one (s : St) (k x : Int) : Int := (s.h + S1 s.e + ch s.e s.f s.g + k + x) % 4294967296
def two (s : St) : Int := (S0 s.a + maj s.a s.b s.c) % 4294967296
def step (s : St) (k x : Int) : St := ⟨(one s k x + two s) % 4294967296, s.a, s.b, s.c, (s.d + one s k x) % 4294967296, s.e, s.f, s.g⟩
def rounds (s : St) (ks ws : List Int) : Nat → St
  | 0 => s
  | n + 1 => step (rounds s ks ws n) (ks.getD n 0) (ws.getD n 0)
def St.add (s v : St) : St := ⟨(s.a + v.a) % 4294967296, (s.b + v.b) % 4294967296, (s.c + v.c) % 4294967296, (s.d + v.d) % 4294967296, (s.e + v.e) % 4294967296, (s.f + v.f) % 4294967296, (s.g + v.g) % 4294967296, (s.h + v.h) % 4294967296⟩

/-- The i-th word of a block's bytes. -/
def word (l : List Int) (i : Nat) : Int := l.getD (4 * i) 0 * 16777216 + l.getD (4 * i + 1) 0 * 65536 + l.getD (4 * i + 2) 0 * 256 + l.getD (4 * i + 3) 0
def first (l : List Int) (n : Nat) : List Int := (List.range n).map (word l)
def nxt (l : List Int) (t : Nat) : Int := (l.getD (t - 16) 0 + l.getD (t - 7) 0 + s0 (l.getD (t - 15) 0) + s1 (l.getD (t - 2) 0)) % 4294967296
/-- n words more. -/
def more (l : List Int) : Nat → List Int
  | 0 => l
  | n + 1 => more l n ++ [nxt (more l n) (more l n).length]
def sched (l : List Int) : List Int := more (first l 16) 48

def ks : List Int := [1116352408, 1899447441, 3049323471, 3921009573, 961987163, 1508970993, 2453635748, 2870763221, 3624381080, 310598401, 607225278, 1426881987, 1925078388, 2162078206, 2614888103, 3248222580, 3835390401, 4022224774, 264347078, 604807628, 770255983, 1249150122, 1555081692, 1996064986, 2554220882, 2821834349, 2952996808, 3210313671, 3336571891, 3584528711, 113926993, 338241895, 666307205, 773529912, 1294757372, 1396182291, 1695183700, 1986661051, 2177026350, 2456956037, 2730485921, 2820302411, 3259730800, 3345764771, 3516065817, 3600352804, 4094571909, 275423344, 430227734, 506948616, 659060556, 883997877, 958139571, 1322822218, 1537002063, 1747873779, 1955562222, 2024104815, 2227730452, 2361852424, 2428436474, 2756734187, 3204031479, 3329325298]

/-- A block of 64 bytes taken in. -/
def feed (s : St) (l : List Int) : St := s.add (rounds s ks (sched l) 64)
/-- The bytes of eight words. -/
def bytesOf (s : St) : List Int := (List.range 32).map fun i => s.ints.getD (i / 4) 0 / 2 ^ (24 - 8 * (i % 4)) % 256
/-- The first n blocks of a text taken in. -/
def fs (l : List Int) : Nat → St
  | 0 => St.start
  | n + 1 => feed (fs l n) ((l.drop (64 * n)).take 64)

theorem first_len (l : List Int) (n : Nat) : (first l n).length = n := by simp [first]
theorem more_len (l : List Int) (n : Nat) : (more l n).length = l.length + n := by
  induction n with
  | zero => rfl
  | succ n ih => simp [more, ih]; omega
theorem first_succ (l : List Int) (n : Nat) : first l (n + 1) = first l n ++ [word l n] := by simp [first, List.range_succ]
theorem ks_len : ks.length = 64 := rfl

/-- What is known so far, noughts behind it, 64 in all. -/
def pad (l : List Int) : List Value := (l ++ List.replicate (64 - l.length) 0).map (Value.int .u32)
theorem pad_len (l : List Int) (h : l.length ≤ 64) : (pad l).length = 64 := by simp [pad]; omega
theorem pad_set (l : List Int) (x : Int) (h : l.length < 64) : (pad l).set l.length (.int .u32 x) = pad (l ++ [x]) := by
  unfold pad
  rw [List.length_append, List.length_singleton]
  obtain ⟨m, hm⟩ : ∃ m, 64 - l.length = m + 1 := ⟨63 - l.length, by omega⟩
  rw [hm, show 64 - (l.length + 1) = m by omega, List.replicate_succ, List.map_append, List.set_append, List.map_append]
  simp
theorem pad_get (l : List Int) (i : Nat) (h : i < l.length) : (pad l)[i]? = some (.int .u32 (l.getD i 0)) := by
  unfold pad
  rw [List.map_append, List.getElem?_append_left (by simpa using h)]
  simp [h]
theorem pad_full (l : List Int) (h : l.length = 64) : pad l = l.map (Value.int .u32) := by simp [pad, h]
/-- A text's bytes as numbers. -/
def bl (b : ByteArray) : List Int := b.data.toList.map fun c => (c.toNat : Int)
theorem bl_len (b : ByteArray) : (bl b).length = b.size := by unfold bl; rw [List.length_map]; rfl
theorem bl_get (b : ByteArray) (i : Nat) (h : i < b.size) : (bl b).getD i 0 = (b[i].toNat : Int) := by
  have h' : i < b.data.toList.length := h
  unfold bl
  rw [List.getD_eq_getElem?_getD, List.getElem?_map, List.getElem?_eq_getElem h']
  rfl
theorem wraps_u32 (n : Int) (h₀ : 0 ≤ n) (h₁ : n < 2 ^ 32) : IntKind.u32.wrap n = n := by rw [IntKind.wrap_u32]; omega
theorem or_u32 (i : Nat) (x y : Int) (hx₀ : 0 ≤ x) (hx : x % 2 ^ i = 0) (hx₁ : x < 4294967296) (h₀ : 0 ≤ y) (h₁ : y < 2 ^ i) (h₂ : y < 4294967296) : bits .or .u32 x y = x + y :=
  bits_join .u32 32 (by decide) wraps_u32 i x y hx₀ hx (by simpa using hx₁) h₀ h₁ (by simpa using h₂)
/-- The bytes of a word, joined by 'or', are the word. -/
theorem word_or (a b c d : Int) (ha : 0 ≤ a ∧ a < 256) (hb : 0 ≤ b ∧ b < 256) (hc : 0 ≤ c ∧ c < 256) (hd : 0 ≤ d ∧ d < 256) :
    bits .or .u32 (bits .or .u32 (bits .or .u32 (a % 4294967296 * 16777216 % 4294967296) (b % 4294967296 * 65536 % 4294967296)) (c % 4294967296 * 256 % 4294967296)) (d % 4294967296) = a * 16777216 + b * 65536 + c * 256 + d := by
  obtain ⟨ha0, ha1⟩ := ha
  obtain ⟨hb0, hb1⟩ := hb
  obtain ⟨hc0, hc1⟩ := hc
  obtain ⟨hd0, hd1⟩ := hd
  have e1 : a % 4294967296 * 16777216 % 4294967296 = a * 16777216 := by omega
  have e2 : b % 4294967296 * 65536 % 4294967296 = b * 65536 := by omega
  have e3 : c % 4294967296 * 256 % 4294967296 = c * 256 := by omega
  have e4 : d % 4294967296 = d := by omega
  rw [e1, e2, e3, e4, or_u32 24 (a * 16777216) (b * 65536) (by omega) (by omega) (by omega) (by omega) (by omega) (by omega),
    or_u32 16 (a * 16777216 + b * 65536) (c * 256) (by omega) (by omega) (by omega) (by omega) (by omega) (by omega),
    or_u32 8 (a * 16777216 + b * 65536 + c * 256) d (by omega) (by omega) (by omega) (by omega) (by omega) (by omega)]
theorem byte_rng (c : UInt8) : (0 : Int) ≤ (c.toNat : Int) ∧ (c.toNat : Int) < 256 := ⟨by omega, by have := c.toNat_lt; omega⟩
/-- The first k numbers of a row, noughts behind them. -/
def fill (l : List Int) (k : Nat) : List Int := l.take k ++ List.replicate (l.length - k) 0
theorem fill_len (l : List Int) (k : Nat) (h : k ≤ l.length) : (fill l k).length = l.length := by simp [fill]; omega
theorem fill_set (l : List Int) (k : Nat) (h : k < l.length) : (fill l k).set k (l.getD k 0) = fill l (k + 1) := by
  have hl : (l.take k).length = k := by simp; omega
  obtain ⟨m, hm⟩ : ∃ m, l.length - k = m + 1 := ⟨l.length - k - 1, by omega⟩
  unfold fill
  rw [hm, show l.length - (k + 1) = m by omega, List.replicate_succ, List.set_append_right _ _ (by omega), hl, Nat.sub_self, List.set_cons_zero, List.take_add_one, List.getElem?_eq_getElem h, List.getD_eq_getElem?_getD, List.getElem?_eq_getElem h, List.append_assoc]
  rfl
theorem fill_all (l : List Int) : fill l l.length = l := by simp [fill]
theorem bytesOf_len (s : St) : (bytesOf s).length = 32 := by simp [bytesOf]
theorem bytesOf_get (s : St) (i : Nat) (h : i < 32) : (bytesOf s).getD i 0 = s.ints.getD (i / 4) 0 / 2 ^ (24 - 8 * (i % 4)) % 256 := by
  simp [bytesOf, h]
theorem bytesOf_rng (s : St) : ∀ x ∈ bytesOf s, 0 ≤ x ∧ x < 256 := by
  intro x hx
  simp only [bytesOf, List.mem_map] at hx
  obtain ⟨i, _, rfl⟩ := hx
  omega
theorem vals_get (s : St) (j : Nat) (h : j < 8) : s.vals[j]? = some (.int .u32 (s.ints.getD j 0)) := by
  have : j < s.ints.length := h
  unfold St.vals
  rw [List.getElem?_map, List.getElem?_eq_getElem this, List.getD_eq_getElem?_getD, List.getElem?_eq_getElem this]
  rfl
theorem add_get (s v : St) (j : Nat) (h : j < 8) : (s.add v).ints.getD j 0 = (s.ints.getD j 0 + v.ints.getD j 0) % 4294967296 := by
  rcases j with _ | _ | _ | _ | _ | _ | _ | _ | j <;> first | rfl | omega
theorem vals_len (s : St) : s.vals.length = 8 := rfl
theorem mix_get {α : Type} (A B R : List α) (j : Nat) (hA : j ≤ A.length) (hB : j < B.length) : (A.take j ++ B.drop j ++ R)[j]? = B[j]? := by
  rw [List.getElem?_append_left (by simp; omega), List.getElem?_append_right (by simp; omega), List.getElem?_drop]
  congr 1
  simp; omega
theorem mix_set {α : Type} (A B R : List α) (j : Nat) (x : α) (hx : A[j]? = some x) (hB : j < B.length) : (A.take j ++ B.drop j ++ R).set j x = A.take (j + 1) ++ B.drop (j + 1) ++ R := by
  obtain ⟨hA, rfl⟩ := List.getElem?_eq_some_iff.1 hx
  have hl : (A.take j).length = j := by simp; omega
  rw [List.append_assoc, List.set_append_right _ _ (by omega), hl, Nat.sub_self, List.drop_eq_getElem_cons hB, List.cons_append, List.set_cons_zero, List.take_succ_eq_append_getElem hA, List.append_assoc, List.append_assoc]
  rfl
/-- The j-th word of a block as far as m of its bytes are known. -/
def pv (l : List Int) (j : Nat) : Nat → Int
  | 0 => 0
  | m + 1 => pv l j m * 256 + l.getD (4 * j + m) 0
def pcells (l : List Int) (i : Nat) : List Int := (List.range 64).map fun j => pv l j (min 4 (i - 4 * j))
theorem pv_rng (l : List Int) (hl : ∀ i, 0 ≤ l.getD i 0 ∧ l.getD i 0 < 256) (j m : Nat) (hm : m ≤ 3) : 0 ≤ pv l j m ∧ pv l j m < 16777216 := by
  have h0 := hl (4 * j + 0)
  have h1 := hl (4 * j + 1)
  have h2 := hl (4 * j + 2)
  rcases m with _ | _ | _ | _ | m
  · simp only [pv]; omega
  · simp only [pv]; omega
  · simp only [pv]; omega
  · simp only [pv]; omega
  · omega
theorem pcells_len (l : List Int) (i : Nat) : (pcells l i).length = 64 := by simp [pcells]
theorem pcells_get (l : List Int) (i j : Nat) (hj : j < 64) : (pcells l i)[j]? = some (pv l j (min 4 (i - 4 * j))) := by
  simp [pcells, hj]
theorem pcells_set (l : List Int) (i : Nat) (hi : i < 64) : (pcells l i).set (i / 4) (pv l (i / 4) (i % 4) * 256 + l.getD i 0) = pcells l (i + 1) := by
  apply List.ext_getElem?
  intro j
  rw [List.getElem?_set]
  by_cases hj : j < 64
  · rw [pcells_get _ _ _ hj, pcells_get _ _ _ hj]
    by_cases he : i / 4 = j
    · subst he
      rw [if_pos rfl, if_pos (by rw [pcells_len]; omega)]
      have e1 : min 4 (i + 1 - 4 * (i / 4)) = i % 4 + 1 := by omega
      rw [e1]
      show _ = some (pv l (i / 4) (i % 4) * 256 + l.getD (4 * (i / 4) + i % 4) 0)
      rw [show 4 * (i / 4) + i % 4 = i by omega]
    · rw [if_neg he]
      have e1 : min 4 (i + 1 - 4 * j) = min 4 (i - 4 * j) := by omega
      rw [e1]
  · rw [if_neg (by omega), List.getElem?_eq_none (by rw [pcells_len]; omega), List.getElem?_eq_none (by rw [pcells_len]; omega)]
theorem pcells_start (l : List Int) : pcells l 0 = List.replicate 64 0 := by
  apply List.ext_getElem?
  intro j
  by_cases hj : j < 64
  · rw [pcells_get _ _ _ hj, Nat.zero_sub, List.getElem?_replicate, if_pos hj]; rfl
  · rw [List.getElem?_eq_none (by rw [pcells_len]; omega), List.getElem?_eq_none (by simp; omega)]
theorem pv4 (l : List Int) (j : Nat) : pv l j 4 = word l j := by simp only [pv, word, Nat.add_zero]; omega
theorem pcells_end (l : List Int) : pcells l 64 = first l 16 ++ List.replicate 48 0 := by
  apply List.ext_getElem?
  intro j
  by_cases hj : j < 64
  · rw [pcells_get _ _ _ hj]
    by_cases h16 : j < 16
    · rw [List.getElem?_append_left (by rw [first_len]; exact h16), show min 4 (64 - 4 * j) = 4 by omega, pv4]
      simp [first, h16]
    · rw [List.getElem?_append_right (by rw [first_len]; omega), first_len, show min 4 (64 - 4 * j) = 0 by omega, List.getElem?_replicate, if_pos (by omega)]
      rfl
  · rw [List.getElem?_eq_none (by rw [pcells_len]; omega), List.getElem?_eq_none (by simp [first_len]; omega)]
theorem bl_rng (b : ByteArray) (i : Nat) : 0 ≤ (bl b).getD i 0 ∧ (bl b).getD i 0 < 256 := by
  by_cases h : i < b.size
  · rw [bl_get b i h]; exact byte_rng _
  · rw [List.getD_eq_getElem?_getD, List.getElem?_eq_none (by rw [bl_len]; omega)]; exact ⟨by decide, by decide⟩
theorem bl_extract (s : ByteArray) (i j : Nat) : bl (s.extract i j) = ((bl s).drop i).take (j - i) := by
  unfold bl
  rw [ByteArray.data_extract, Array.toList_extract, List.extract_eq_take_drop, List.map_take, List.map_drop]
theorem bl_inj {a b : ByteArray} (h : bl a = bl b) : a = b := by
  obtain ⟨⟨a⟩⟩ := a
  obtain ⟨⟨b⟩⟩ := b
  congr 2
  unfold bl at h
  have hl : a.length = b.length := by simpa using congrArg List.length h
  apply List.ext_getElem hl
  intro i h1 h2
  have h3 := congrArg (fun l => l[i]?) h
  simp only [List.getElem?_map, List.getElem?_eq_getElem h1, List.getElem?_eq_getElem h2, Option.map_some, Option.some.injEq] at h3
  apply UInt8.toNat_inj.1
  omega
theorem bl_app (a b : ByteArray) : bl (a ++ b) = bl a ++ bl b := by simp [bl]
theorem bl_strOfNums (l : List Int) (h : ∀ x ∈ l, 0 ≤ x ∧ x < 256) : bl (strOfNums l) = l := by
  unfold bl
  rw [strOfNums_data, List.map_map]
  conv => rhs; rw [← List.map_id l]
  refine List.map_congr_left fun x hx => ?_
  have := h x hx
  simp only [Function.comp, UInt8.toNat_ofNat', id]
  omega
theorem bl_lit1 (c : UInt8) : bl ⟨#[c]⟩ = [(c.toNat : Int)] := rfl
/-- The length in bits, eight bytes. -/
def tail8 (n : Nat) : List Int := (List.range 8).map fun i => (n * 8 % 18446744073709551616 : Int) / 2 ^ (56 - 8 * i) % 256
theorem tail8_len (n : Nat) : (tail8 n).length = 8 := by simp [tail8]
theorem tail8_get (n i : Nat) (h : i < 8) : (tail8 n)[i]? = some ((n * 8 % 18446744073709551616 : Int) / 2 ^ (56 - 8 * i) % 256) := by simp [tail8, h]
theorem tail8_rng (n : Nat) : ∀ x ∈ tail8 n, 0 ≤ x ∧ x < 256 := by
  intro x hx
  simp only [tail8, List.mem_map] at hx
  obtain ⟨i, _, rfl⟩ := hx
  omega
def zs (n : Nat) : Nat := (119 - n % 64) % 64
/-- A text, padded. -/
def padded (l : List Int) : List Int := l ++ 128 :: List.replicate (zs l.length) 0 ++ tail8 l.length
/-- A text's sum. -/
def digest (l : List Int) : List Int := bytesOf (fs (padded l) ((padded l).length / 64))
theorem padded_len (l : List Int) : (padded l).length = l.length + 1 + zs l.length + 8 := by
  simp only [padded, List.length_append, List.length_cons, List.length_replicate, tail8_len]; omega
theorem padded_mod (l : List Int) : (padded l).length % 64 = 0 := by rw [padded_len]; unfold zs; omega
theorem padded_le (l : List Int) : (padded l).length ≤ l.length + 72 := by rw [padded_len]; unfold zs; omega
def digits : List Int := [48, 49, 50, 51, 52, 53, 54, 55, 56, 57, 97, 98, 99, 100, 101, 102]
def dig (x : Int) : Int := digits.getD x.toNat 0
/-- A sum's text. -/
def hex : List Int → List Int
  | [] => []
  | x :: l => dig (x / 16) :: dig (x % 16) :: hex l
theorem hex_app (a b : List Int) : hex (a ++ b) = hex a ++ hex b := by
  induction a with
  | nil => rfl
  | cons x a ih => simp [hex, ih]
theorem hex_len (l : List Int) : (hex l).length = 2 * l.length := by
  induction l with
  | nil => rfl
  | cons x l ih => simp [hex, ih]; omega
theorem dig_rng (x : Int) : 0 ≤ dig x ∧ dig x < 256 := by
  unfold dig
  by_cases h : x.toNat < 16
  · have : ∀ i : Fin 16, 0 ≤ digits.getD i.val 0 ∧ digits.getD i.val 0 < 256 := by decide
    exact this ⟨x.toNat, h⟩
  · rw [List.getD_eq_getElem?_getD, List.getElem?_eq_none (by have : digits.length = 16 := rfl; omega)]
    exact ⟨by decide, by decide⟩
theorem hex_rng (l : List Int) : ∀ x ∈ hex l, 0 ≤ x ∧ x < 256 := by
  induction l with
  | nil => intro x hx; cases hx
  | cons y l ih =>
    intro x hx
    simp only [hex, List.mem_cons] at hx
    rcases hx with rfl | rfl | hx
    · exact dig_rng _
    · exact dig_rng _
    · exact ih x hx
theorem hex_take (l : List Int) (k : Nat) (h : k < l.length) : hex (l.take (k + 1)) = hex (l.take k) ++ [dig (l.getD k 0 / 16), dig (l.getD k 0 % 16)] := by
  rw [List.take_add_one, List.getElem?_eq_getElem h, hex_app, List.getD_eq_getElem?_getD, List.getElem?_eq_getElem h]
  rfl
theorem dig_eq (x : Int) (h0 : 0 ≤ x) (h1 : x < 16) (h : x.toNat < (⟨#[48, 49, 50, 51, 52, 53, 54, 55, 56, 57, 97, 98, 99, 100, 101, 102]⟩ : ByteArray).size) :
    (((⟨#[48, 49, 50, 51, 52, 53, 54, 55, 56, 57, 97, 98, 99, 100, 101, 102]⟩ : ByteArray)[x.toNat]'h).toNat : Int) = dig x := by
  have : ∀ i : Fin 16, (((⟨#[48, 49, 50, 51, 52, 53, 54, 55, 56, 57, 97, 98, 99, 100, 101, 102]⟩ : ByteArray)[i.val]'(show i.val < 16 from i.isLt)).toNat : Int) = digits.getD i.val 0 := by decide
  exact this ⟨x.toNat, by omega⟩
end Sha
end Go.Proofs.YtpboclafoccfnaaDoor
