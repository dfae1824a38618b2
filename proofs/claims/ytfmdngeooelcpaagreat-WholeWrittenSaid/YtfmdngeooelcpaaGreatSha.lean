/- SHA-256, plainly. No program. -/
namespace Go.Proofs.YtfmdngeooelcpaaGreat

/-- A number's 32 bits turned to the right. -/
def rotr (n x : Nat) : Nat := x / 2 ^ n + x % 2 ^ n * 2 ^ (32 - n)
def rotr1 (x : Nat) : Nat := x / 2 + x % 2 * 2147483648
def rotrN : Nat → Nat → Nat
  | 0, x => x
  | n + 1, x => rotr1 (rotrN n x)
def halfN : Nat → Nat → Nat
  | 0, x => x
  | n + 1, x => halfN n x / 2
theorem halfN_eq (x : Nat) : ∀ n, halfN n x = x / 2 ^ n
  | 0 => by simp [halfN]
  | n + 1 => by rw [halfN, halfN_eq x n, Nat.div_div_eq_div_mul, Nat.pow_succ]
theorem rotr_step {n x : Nat} (hn : n < 32) : rotr1 (rotr n x) = rotr (n + 1) x := by
  unfold rotr rotr1
  have e1 : 2 ^ (32 - n) = 2 * 2 ^ (32 - (n + 1)) := by rw [← Nat.pow_succ']; congr 1; omega
  have e2 : x / 2 ^ (n + 1) = x / 2 ^ n / 2 := by rw [Nat.pow_succ, Nat.div_div_eq_div_mul]
  have e3 : x % 2 ^ (n + 1) = x % 2 ^ n + 2 ^ n * (x / 2 ^ n % 2) := by rw [Nat.pow_succ, Nat.mod_mul]
  have e4 : 2 ^ n * 2 ^ (32 - (n + 1)) = 2147483648 := by rw [← Nat.pow_add, show n + (32 - (n + 1)) = 31 from by omega]
  rw [e1, e2, e3]
  generalize x / 2 ^ n = q
  have e5 : (x % 2 ^ n + 2 ^ n * (q % 2)) * 2 ^ (32 - (n + 1)) = x % 2 ^ n * 2 ^ (32 - (n + 1)) + q % 2 * 2147483648 := by
    rw [Nat.add_mul, Nat.mul_right_comm, e4, Nat.mul_comm 2147483648]
  have e6 : x % 2 ^ n * (2 * 2 ^ (32 - (n + 1))) = 2 * (x % 2 ^ n * 2 ^ (32 - (n + 1))) := by rw [Nat.mul_left_comm]
  rw [e5, e6]
  generalize x % 2 ^ n * 2 ^ (32 - (n + 1)) = y
  omega
theorem rotrN_eq (x : Nat) : ∀ n, n ≤ 32 → rotrN n x = rotr n x
  | 0, _ => by simp [rotrN, rotr, Nat.mod_one]
  | n + 1, h => by rw [rotrN, rotrN_eq x n (by omega), rotr_step (by omega)]
theorem rotr1_lt {x : Nat} (h : x < 4294967296) : rotr1 x < 4294967296 := by unfold rotr1; omega
theorem rotrN_lt {x : Nat} (h : x < 4294967296) : ∀ n, rotrN n x < 4294967296
  | 0 => h
  | n + 1 => rotr1_lt (rotrN_lt h n)
theorem rotr_lt {n x : Nat} (hn : n ≤ 32) (h : x < 4294967296) : rotr n x < 4294967296 := by rw [← rotrN_eq x n hn]; exact rotrN_lt h n
theorem xor_lt32 {a b : Nat} (ha : a < 4294967296) (hb : b < 4294967296) : a ^^^ b < 4294967296 := Nat.xor_lt_two_pow (n := 32) ha hb
theorem and_lt32 {a b : Nat} (ha : a < 4294967296) : a &&& b < 4294967296 := Nat.lt_of_le_of_lt Nat.and_le_left ha

def sg0 (x : Nat) : Nat := rotr 7 x ^^^ rotr 18 x ^^^ x / 8
def sg1 (x : Nat) : Nat := rotr 17 x ^^^ rotr 19 x ^^^ x / 1024
def Sg0 (x : Nat) : Nat := rotr 2 x ^^^ rotr 13 x ^^^ rotr 22 x
def Sg1 (x : Nat) : Nat := rotr 6 x ^^^ rotr 11 x ^^^ rotr 25 x
def chx (e f g : Nat) : Nat := (e &&& f) ^^^ ((4294967295 - e) &&& g)
def maj (a b c : Nat) : Nat := (a &&& b) ^^^ (a &&& c) ^^^ (b &&& c)
theorem sg0_lt {x : Nat} (h : x < 4294967296) : sg0 x < 4294967296 := xor_lt32 (xor_lt32 (rotr_lt (by decide) h) (rotr_lt (by decide) h)) (by omega)
theorem sg1_lt {x : Nat} (h : x < 4294967296) : sg1 x < 4294967296 := xor_lt32 (xor_lt32 (rotr_lt (by decide) h) (rotr_lt (by decide) h)) (by omega)
theorem Sg0_lt {x : Nat} (h : x < 4294967296) : Sg0 x < 4294967296 := xor_lt32 (xor_lt32 (rotr_lt (by decide) h) (rotr_lt (by decide) h)) (rotr_lt (by decide) h)
theorem Sg1_lt {x : Nat} (h : x < 4294967296) : Sg1 x < 4294967296 := xor_lt32 (xor_lt32 (rotr_lt (by decide) h) (rotr_lt (by decide) h)) (rotr_lt (by decide) h)
theorem chx_lt {e f g : Nat} (h : e < 4294967296) : chx e f g < 4294967296 := xor_lt32 (and_lt32 h) (and_lt32 (by omega))
theorem maj_lt {a b c : Nat} (ha : a < 4294967296) (hb : b < 4294967296) : maj a b c < 4294967296 := xor_lt32 (xor_lt32 (and_lt32 ha) (and_lt32 ha)) (and_lt32 hb)

/-- Four bytes as a number, the highest first. -/
def four (a b c d : Nat) : Nat := a * 16777216 + b * 65536 + c * 256 + d
def byt (l : List UInt8) (i : Nat) : Nat := (l.getD i 0).toNat
def fourL (l : List UInt8) (i : Nat) : Nat := four (byt l i) (byt l (i + 1)) (byt l (i + 2)) (byt l (i + 3))
theorem byt_lt (l : List UInt8) (i : Nat) : byt l i < 256 := UInt8.toNat_lt _
theorem fourL_lt (l : List UInt8) (i : Nat) : fourL l i < 4294967296 := by
  have := byt_lt l i; have := byt_lt l (i + 1); have := byt_lt l (i + 2); have := byt_lt l (i + 3)
  unfold fourL four; omega
/-- The word that follows so many. -/
def ext (w : List Nat) : Nat := (w.getD (w.length - 16) 0 + sg0 (w.getD (w.length - 15) 0) + w.getD (w.length - 7) 0 + sg1 (w.getD (w.length - 2) 0)) % 4294967296
/-- The first so many words of a block. -/
def wds0 (b : List UInt8) : Nat → List Nat
  | 0 => []
  | n + 1 => wds0 b n ++ [fourL b (4 * n)]
def wdsN (w : List Nat) : Nat → List Nat
  | 0 => w
  | n + 1 => wdsN w n ++ [ext (wdsN w n)]
def wds (b : List UInt8) : List Nat := wdsN (wds0 b 16) 48
theorem wds0_len (b : List UInt8) : ∀ n, (wds0 b n).length = n
  | 0 => rfl
  | n + 1 => by rw [wds0, List.length_append, wds0_len b n]; rfl
theorem wdsN_len (w : List Nat) : ∀ n, (wdsN w n).length = w.length + n
  | 0 => rfl
  | n + 1 => by rw [wdsN, List.length_append, wdsN_len w n]; rfl
theorem wds_len (b : List UInt8) : (wds b).length = 64 := by unfold wds; rw [wdsN_len, wds0_len]
def All32 (w : List Nat) : Prop := ∀ x ∈ w, x < 4294967296
theorem All32.app {w v : List Nat} (h : All32 w) (g : All32 v) : All32 (w ++ v) := fun x hx => (List.mem_append.1 hx).elim (h x) (g x)
theorem All32.getD {w : List Nat} (h : All32 w) (i : Nat) : w.getD i 0 < 4294967296 := by
  rw [List.getD_eq_getElem?_getD]
  cases e : w[i]? with
  | none => decide
  | some x => exact h x (List.mem_of_getElem? e)
theorem wds0_32 (b : List UInt8) : ∀ n, All32 (wds0 b n)
  | 0 => fun x hx => by simp [wds0] at hx
  | n + 1 => (wds0_32 b n).app (fun x hx => by rw [List.mem_singleton.1 hx]; exact fourL_lt _ _)
theorem ext_lt (w : List Nat) : ext w < 4294967296 := Nat.mod_lt _ (by decide)
theorem wdsN_32 {w : List Nat} (h : All32 w) : ∀ n, All32 (wdsN w n)
  | 0 => h
  | n + 1 => (wdsN_32 h n).app (fun x hx => by rw [List.mem_singleton.1 hx]; exact ext_lt _)
theorem wds_32 (b : List UInt8) : All32 (wds b) := wdsN_32 (wds0_32 b 16) 48

/-- The eight numbers. -/
structure ST where
  a : Nat
  b : Nat
  c : Nat
  d : Nat
  e : Nat
  f : Nat
  g : Nat
  h : Nat
def ST.l (s : ST) : List Nat := [s.a, s.b, s.c, s.d, s.e, s.f, s.g, s.h]
structure ST.Ok (s : ST) : Prop where
  a : s.a < 4294967296
  b : s.b < 4294967296
  c : s.c < 4294967296
  d : s.d < 4294967296
  e : s.e < 4294967296
  f : s.f < 4294967296
  g : s.g < 4294967296
  h : s.h < 4294967296
def rT (s : ST) (k x : Nat) : Nat := (s.h + Sg1 s.e + chx s.e s.f s.g + k + x) % 4294967296
def rU (s : ST) : Nat := (Sg0 s.a + maj s.a s.b s.c) % 4294967296
def rnd (s : ST) (k x : Nat) : ST := ⟨(rT s k x + rU s) % 4294967296, s.a, s.b, s.c, (s.d + rT s k x) % 4294967296, s.e, s.f, s.g⟩
def kK : List Nat := [0x428a2f98, 0x71374491, 0xb5c0fbcf, 0xe9b5dba5, 0x3956c25b, 0x59f111f1, 0x923f82a4, 0xab1c5ed5, 0xd807aa98, 0x12835b01, 0x243185be, 0x550c7dc3, 0x72be5d74, 0x80deb1fe, 0x9bdc06a7, 0xc19bf174, 0xe49b69c1, 0xefbe4786, 0x0fc19dc6, 0x240ca1cc, 0x2de92c6f, 0x4a7484aa, 0x5cb0a9dc, 0x76f988da, 0x983e5152, 0xa831c66d, 0xb00327c8, 0xbf597fc7, 0xc6e00bf3, 0xd5a79147, 0x06ca6351, 0x14292967, 0x27b70a85, 0x2e1b2138, 0x4d2c6dfc, 0x53380d13, 0x650a7354, 0x766a0abb, 0x81c2c92e, 0x92722c85, 0xa2bfe8a1, 0xa81a664b, 0xc24b8b70, 0xc76c51a3, 0xd192e819, 0xd6990624, 0xf40e3585, 0x106aa070, 0x19a4c116, 0x1e376c08, 0x2748774c, 0x34b0bcb5, 0x391c0cb3, 0x4ed8aa4a, 0x5b9cca4f, 0x682e6ff3, 0x748f82ee, 0x78a5636f, 0x84c87814, 0x8cc70208, 0x90befffa, 0xa4506ceb, 0xbef9a3f7, 0xc67178f2]
theorem kK_32 : All32 kK := by unfold All32 kK; decide
def rndN (w : List Nat) (s : ST) : Nat → ST
  | 0 => s
  | n + 1 => rnd (rndN w s n) (kK.getD n 0) (w.getD n 0)
theorem rnd_ok {s : ST} (h : s.Ok) (k x : Nat) : (rnd s k x).Ok := ⟨Nat.mod_lt _ (by decide), h.a, h.b, h.c, Nat.mod_lt _ (by decide), h.e, h.f, h.g⟩
theorem rndN_ok {s : ST} (w : List Nat) (h : s.Ok) : ∀ n, (rndN w s n).Ok
  | 0 => h
  | n + 1 => rnd_ok (rndN_ok w h n) _ _
def ST.add (s t : ST) : ST := ⟨(s.a + t.a) % 4294967296, (s.b + t.b) % 4294967296, (s.c + t.c) % 4294967296, (s.d + t.d) % 4294967296, (s.e + t.e) % 4294967296, (s.f + t.f) % 4294967296, (s.g + t.g) % 4294967296, (s.h + t.h) % 4294967296⟩
theorem ST.add_ok (s t : ST) : (s.add t).Ok := ⟨Nat.mod_lt _ (by decide), Nat.mod_lt _ (by decide), Nat.mod_lt _ (by decide), Nat.mod_lt _ (by decide), Nat.mod_lt _ (by decide), Nat.mod_lt _ (by decide), Nat.mod_lt _ (by decide), Nat.mod_lt _ (by decide)⟩
/-- Behind a block of 64 bytes. -/
def blk (s : ST) (b : List UInt8) : ST := s.add (rndN (wds b) s 64)
def st0 : ST := ⟨0x6a09e667, 0xbb67ae85, 0x3c6ef372, 0xa54ff53a, 0x510e527f, 0x9b05688c, 0x1f83d9ab, 0x5be0cd19⟩
theorem st0_ok : st0.Ok := ⟨by decide, by decide, by decide, by decide, by decide, by decide, by decide, by decide⟩
/-- Behind so many blocks. -/
def blks (s : ST) (l : List UInt8) : Nat → ST
  | 0 => s
  | n + 1 => blk (blks s l n) ((l.drop (64 * n)).take 64)
theorem blks_ok {s : ST} (l : List UInt8) (h : s.Ok) : ∀ n, (blks s l n).Ok
  | 0 => h
  | _ + 1 => ST.add_ok _ _
theorem blks_app (s : ST) (l m : List UInt8) : ∀ n, 64 * n ≤ l.length → blks s (l ++ m) n = blks s l n
  | 0, _ => rfl
  | n + 1, h => by
    rw [blks, blks, blks_app s l m n (by omega), List.drop_append_of_le_length (by omega), List.take_append_of_le_length (by rw [List.length_drop]; omega)]
theorem blks_add (s : ST) (l : List UInt8) (a : Nat) : ∀ n, blks s l (a + n) = blks (blks s l a) (l.drop (64 * a)) n
  | 0 => rfl
  | n + 1 => by
    rw [← Nat.add_assoc, blks, blks, blks_add s l a n, List.drop_drop, show 64 * a + 64 * n = 64 * (a + n) from by omega]
/-- A number's four bytes, the highest first. -/
def be4 (x : Nat) : List UInt8 := [UInt8.ofNat (x / 16777216), UInt8.ofNat (x / 65536), UInt8.ofNat (x / 256), UInt8.ofNat x]
/-- So many of a number's bytes, the highest first. -/
def beN : Nat → Nat → List UInt8
  | 0, _ => []
  | n + 1, x => beN n (x / 256) ++ [UInt8.ofNat x]
/-- How many noughts stand ahead of the length. -/
def padZ (n : Nat) : Nat := (119 - n % 64) % 64
/-- What stands behind bytes: a one, noughts, their number of bits. -/
def tailB (n : Nat) : List UInt8 := 128 :: (List.replicate (padZ n) 0 ++ beN 8 (8 * n % 18446744073709551616))
theorem beN_len : ∀ n x, (beN n x).length = n
  | 0, _ => rfl
  | n + 1, x => by rw [beN, List.length_append, beN_len n]; rfl
theorem pad_lenS (n : Nat) : 64 ∣ n + (tailB n).length := by
  unfold tailB padZ; simp only [List.length_cons, List.length_append, List.length_replicate, beN_len]; omega
/-- The numbers' bytes. -/
def ST.bytes (s : ST) : List UInt8 := s.l.flatMap be4
def sha (l : List UInt8) : List UInt8 := (blks st0 (l ++ tailB l.length) ((l.length + (tailB l.length).length) / 64)).bytes
theorem bytes_len (s : ST) : s.bytes.length = 32 := rfl
theorem sha_len (l : List UInt8) : (sha l).length = 32 := rfl
end Go.Proofs.YtfmdngeooelcpaaGreat
