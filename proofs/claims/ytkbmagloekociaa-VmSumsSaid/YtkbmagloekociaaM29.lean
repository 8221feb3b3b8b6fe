/- A part of the proof: contracts of functions, each proved once. -/
import Derived.Test.YtkbmagloekociaaM28
namespace Go.Eng.M
open Go Go.Eng Go.Proofs
set_option maxRecDepth 100000
set_option linter.unusedSimpArgs false
set_option linter.unusedSectionVars false
set_option linter.unusedVariables false
variable [Globs]
theorem or_hi (k : Nat) (p : Int) (hp : (2 : Int) ^ k = p) (hk : k ≤ 64) {s u b : Int} (hs : s = (k : Int)) (h0 : 0 ≤ u) (h1 : u < p) (b0 : 0 ≤ b) (b1 : b < 256) (hb : u + p * b < 18446744073709551616) : orI .u64 u (shlI .u64 (IntKind.u64.wrap b) s) = u + p * b := by
  subst hs
  subst hp
  have hm : 0 ≤ (2 : Int) ^ k * b := Int.mul_nonneg (Int.le_of_lt (Int.pow_pos (by decide))) b0
  rw [shl_u64 _ k hk, u64id b0 (by omega), Int.mul_comm, u64id hm (by omega)]
  exact (or_add k h0 h1 b0 hb).2
theorem load_bytes (v : Int) (h0 : -9223372036854775808 ≤ v) (h1 : v ≤ 9223372036854775807) (c : List Int) (a : Nat) (hc : ∀ k, k < 8 → c.getD (a + k) 0 = byteI v k) : IntKind.i64.wrap (loadF c a 8) = v := by
  have b := fun k => byteI_range v k
  have e0 := byteI_eq v 0 (by decide)
  have e1 := byteI_eq v 1 (by decide)
  have e2 := byteI_eq v 2 (by decide)
  have e3 := byteI_eq v 3 (by decide)
  have e4 := byteI_eq v 4 (by decide)
  have e5 := byteI_eq v 5 (by decide)
  have e6 := byteI_eq v 6 (by decide)
  have e7 := byteI_eq v 7 (by decide)
  simp only [Nat.reduceMul, Int.reducePow, Int.ediv_one] at e0 e1 e2 e3 e4 e5 e6 e7
  have r0 := b 0
  have r1 := b 1
  have r2 := b 2
  have r3 := b 3
  have r4 := b 4
  have r5 := b 5
  have r6 := b 6
  have r7 := b 7
  simp only [loadF, hc 7 (by decide), hc 6 (by decide), hc 5 (by decide), hc 4 (by decide), hc 3 (by decide), hc 2 (by decide), hc 1 (by decide), hc 0 (by decide)]
  generalize byteI v 0 = x0 at *
  generalize byteI v 1 = x1 at *
  generalize byteI v 2 = x2 at *
  generalize byteI v 3 = x3 at *
  generalize byteI v 4 = x4 at *
  generalize byteI v 5 = x5 at *
  generalize byteI v 6 = x6 at *
  generalize byteI v 7 = x7 at *
  rw [or_hi 0 1 (by decide) (by decide) (b := x0) (by decide) (by omega) (by omega) (by omega) (by omega) (by omega)]
  rw [or_hi 8 256 (by decide) (by decide) (b := x1) (by decide) (by omega) (by omega) (by omega) (by omega) (by omega)]
  rw [or_hi 16 65536 (by decide) (by decide) (b := x2) (by decide) (by omega) (by omega) (by omega) (by omega) (by omega)]
  rw [or_hi 24 16777216 (by decide) (by decide) (b := x3) (by decide) (by omega) (by omega) (by omega) (by omega) (by omega)]
  rw [or_hi 32 4294967296 (by decide) (by decide) (b := x4) (by decide) (by omega) (by omega) (by omega) (by omega) (by omega)]
  rw [or_hi 40 1099511627776 (by decide) (by decide) (b := x5) (by decide) (by omega) (by omega) (by omega) (by omega) (by omega)]
  rw [or_hi 48 281474976710656 (by decide) (by decide) (b := x6) (by decide) (by omega) (by omega) (by omega) (by omega) (by omega)]
  rw [or_hi 56 72057594037927936 (by decide) (by decide) (b := x7) (by decide) (by omega) (by omega) (by omega) (by omega) (by omega)]
  rw [IntKind.wrap_i64]
  have q1 : v / 65536 = v / 256 / 256 := by omega
  have q2 : v / 16777216 = v / 65536 / 256 := by omega
  have q3 : v / 4294967296 = v / 16777216 / 256 := by omega
  have q4 : v / 1099511627776 = v / 4294967296 / 256 := by omega
  have q5 : v / 281474976710656 = v / 1099511627776 / 256 := by omega
  have q6 : v / 72057594037927936 = v / 281474976710656 / 256 := by omega
  omega
/-- n steps lead from s to s'. -/
def Runs (md : Md) (n : Nat) (s s' : MS) : Prop := ∀ m, loopM md (n + m) s = (loopM md m s').map fun q => (q.1, q.2 + n)
theorem Runs.one {md : Md} {s s' : MS} (hg : goesM s = true) (hs : stepM md s = some s') : Runs md 1 s s' := by
  intro m
  rw [Nat.add_comm]
  exact loopM_succ hg hs
theorem Runs.zero {md : Md} {s : MS} : Runs md 0 s s := by
  intro m
  rw [Nat.zero_add]
  cases loopM md m s <;> simp
theorem Runs.trans {md : Md} {a b : Nat} {s s1 s2 : MS} (h1 : Runs md a s s1) (h2 : Runs md b s1 s2) : Runs md (a + b) s s2 := by
  intro m
  rw [Nat.add_assoc, h1, h2]
  cases loopM md m s2 <;> simp [Nat.add_comm, Nat.add_left_comm]
theorem Runs.ends {md : Md} {n N : Nat} {s s' : MS} (h : Runs md n s s') (hg : goesM s' = false) (hn : n ≤ N) : loopM md N s = some (s', n) := by
  have := h (N - n)
  rw [Nat.add_sub_cancel' hn, loopM_stop hg] at this
  simpa using this
/-- A module of one function; a machine in it. -/
def md1 (mm : Int) (dt : List Int) (code : List Ins) : Md := ⟨mm, dt, [⟨3, 0, 0, code⟩]⟩
def stS (mem : List Int) (k : Int) (loc st : List Int) : MS := ⟨mem, [⟨0, k, loc, st⟩], false, 0, [], 0⟩
theorem one_step {mm : Int} {dt : List Int} {code : List Ins} {mem loc st : List Int} {k : Nat} {op n : Int} {s' : MS} (a : Nat) (hc : code[k]? = some ⟨op, n⟩) (hm : mem.length ≤ 2 ^ 20) (hst : st.length < 2 ^ 20) (he : (effM (md1 mm dt code) 0 ⟨op, n⟩).1 = a) (ha : a ≤ st.length)
    (hi : insM (md1 mm dt code) (stS mem k loc st) ⟨0, (k : Int) + 1, loc, st.take (st.length - a)⟩ [] op n (st.drop (st.length - a)) = some s') : Runs (md1 mm dt code) 1 (stS mem k loc st) s' := by
  refine Runs.one rfl ?_
  have hf : fetchM (md1 mm dt code) ⟨0, (k : Int), loc, st⟩ = some ⟨op, n⟩ := by simp [fetchM, md1, hc]
  simp only [stepM, stS, hf, he]
  rw [if_pos ⟨by omega, by omega, hst, by decide, hm⟩]
  simpa [stS] using hi
theorem load1 {mem : List Int} {a : Nat} {b : Int} (h : mem.getD a 0 = b) (h0 : 0 ≤ b) (h1 : b < 256) : IntKind.i64.wrap (loadF mem a 1) = b := by
  simp only [loadF, Nat.add_zero, h]
  rw [or_hi 0 1 (by decide) (by decide) (by decide) (by omega) (by omega) h0 h1 (by omega), w64 (by omega) (by omega)]
  omega
theorem sum_succ (data : List Int) {i : Nat} (h : i < data.length) : (data.take (i + 1)).sum = (data.take i).sum + data[i] := by
  rw [List.take_succ_eq_append_getElem h, List.sum_append]; simp
theorem sum_range {data : List Int} (hd : ∀ b ∈ data, 0 ≤ b ∧ b < 256) : ∀ i : Nat, i ≤ data.length → 0 ≤ (data.take i).sum ∧ (data.take i).sum ≤ 255 * i
  | 0, _ => by simp
  | i + 1, h => by
    have ih := sum_range hd i (by omega)
    have := hd _ (List.getElem_mem (by omega : i < data.length))
    rw [sum_succ data (by omega)]
    omega
def cS (n k x : Int) : List Ins := [⟨1, 0⟩, ⟨6, 0⟩, ⟨1, 0⟩, ⟨6, 1⟩, ⟨5, 1⟩, ⟨1, n⟩, ⟨18, 0⟩, ⟨19, 0⟩, ⟨25, 19⟩, ⟨5, 1⟩, ⟨20, 0⟩, ⟨5, 0⟩, ⟨7, 0⟩, ⟨6, 0⟩, ⟨5, 1⟩, ⟨1, 1⟩, ⟨7, 0⟩, ⟨6, 1⟩, ⟨24, 4⟩, ⟨1, n⟩, ⟨5, 0⟩, ⟨23, 0⟩, ⟨1, k + 300⟩, ⟨1, x⟩, ⟨23, 0⟩, ⟨1, k + 300⟩, ⟨22, 0⟩, ⟨1, n + 8⟩, ⟨4, 0⟩, ⟨23, 0⟩, ⟨27, 0⟩]
def mdSu (data : List Int) (k x : Int) : Md := md1 600 data (cS data.length k x)
def mdN (data : List Int) (k x : Int) : Md := md1 600 [] (cS data.length k x)
theorem chkFS (data : List Int) (k x : Int) : chkF (mdSu data k x) 0 [⟨3, 0, 0, cS data.length k x⟩] = none := by (show _ = _; kernel_rfl)
theorem fnRS (n k x : Int) : fnR ⟨3, 0, 0, cS n k x⟩ = true := by (show _ = _; kernel_rfl)
theorem rightS {data : List Int} (hl : data.length ≤ 200) (k x : Int) : rightM (mdSu data k x) = true := by
  have := fnRS data.length k x
  simp [rightM, mdSu, md1, this]
  exact decide_eq_true (by omega)
theorem chkS {data : List Int} (hl : data.length ≤ 200) (k x : Int) : checkM (mdSu data k x) = (0, 0, 0) := by
  have h := encB_len1 600 data ⟨3, 0, 0, cS data.length k x⟩
  exact checkM_ok (fn := ⟨3, 0, 0, cS data.length k x⟩) (r := []) (rightS hl k x) (by simp [mdSu, md1, cS] at h ⊢; omega) rfl rfl rfl (chkFS data k x)
theorem iterS {data mem : List Int} {k x : Int} (hm : mem.length ≤ 2 ^ 20) {i : Nat} (hi : i < data.length) {b s : Int} (hb : mem.getD i 0 = b) (hil : i < mem.length) (b0 : 0 ≤ b) (b1 : b < 256) (s0 : 0 ≤ s) (s1 : s < 1000000) (hi2 : i < 1000000) : Runs (mdN data k x) 15 (stS mem 4 [s, (i : Int), 9] []) (stS mem 4 [s + b, ((i + 1 : Nat) : Int), 9] []) := by
  have w1 : truthM (decide ((i : Int) < (data.length : Int))) = 1 := by simp [truthM]; omega
  have w2 : IntKind.i64.wrap (b + s) = s + b := by rw [w64 (by omega) (by omega)]; omega
  have w3 : IntKind.i64.wrap ((i : Int) + 1) = ((i + 1 : Nat) : Int) := by rw [w64 (by omega) (by omega)]; omega
  have w4 : touchM 20 [(i : Int)] mem = some (some (mem, [b])) := by
    have h1 : memOk mem.length i 1 = true := by simp [memOk]; omega
    have h2 := load1 hb b0 b1
    simp [touchM, touchN, h1, h2]
  have h1 : Runs (mdN data k x) 1 (stS mem 4 [s, (i : Int), 9] []) (stS mem 5 [s, (i : Int), 9] [(i : Int)]) := one_step (k := 4) 0 rfl hm (by simp) (by kernel_rfl) (by simp) (by kernel_rfl)
  have h2 : Runs (mdN data k x) 1 (stS mem 5 [s, (i : Int), 9] [(i : Int)]) (stS mem 6 [s, (i : Int), 9] [(i : Int), (data.length : Int)]) := one_step (k := 5) 0 rfl hm (by simp) (by kernel_rfl) (by simp) (by kernel_rfl)
  have h3 : Runs (mdN data k x) 1 (stS mem 6 [s, (i : Int), 9] [(i : Int), (data.length : Int)]) (stS mem 7 [s, (i : Int), 9] [1]) := one_step (k := 6) 2 rfl hm (by simp) (by kernel_rfl) (by simp) (Eq.trans (b := some (stS mem 7 [s, (i : Int), 9] [truthM (decide ((i : Int) < (data.length : Int)))])) (by kernel_rfl) (by rw [w1]))
  have h4 : Runs (mdN data k x) 1 (stS mem 7 [s, (i : Int), 9] [1]) (stS mem 8 [s, (i : Int), 9] [0]) := one_step (k := 7) 1 rfl hm (by simp) (by kernel_rfl) (by simp) (by kernel_rfl)
  have h5 : Runs (mdN data k x) 1 (stS mem 8 [s, (i : Int), 9] [0]) (stS mem 9 [s, (i : Int), 9] []) := one_step (k := 8) 1 rfl hm (by simp) (by kernel_rfl) (by simp) (by kernel_rfl)
  have h6 : Runs (mdN data k x) 1 (stS mem 9 [s, (i : Int), 9] []) (stS mem 10 [s, (i : Int), 9] [(i : Int)]) := one_step (k := 9) 0 rfl hm (by simp) (by kernel_rfl) (by simp) (by kernel_rfl)
  have h7 : Runs (mdN data k x) 1 (stS mem 10 [s, (i : Int), 9] [(i : Int)]) (stS mem 11 [s, (i : Int), 9] [b]) := one_step (k := 10) 1 rfl hm (by simp) (by kernel_rfl) (by simp) (by simp [insM, stS, w4])
  have h8 : Runs (mdN data k x) 1 (stS mem 11 [s, (i : Int), 9] [b]) (stS mem 12 [s, (i : Int), 9] [b, s]) := one_step (k := 11) 0 rfl hm (by simp) (by kernel_rfl) (by simp) (by kernel_rfl)
  have h9 : Runs (mdN data k x) 1 (stS mem 12 [s, (i : Int), 9] [b, s]) (stS mem 13 [s, (i : Int), 9] [s + b]) := one_step (k := 12) 2 rfl hm (by simp) (by kernel_rfl) (by simp) (Eq.trans (b := some (stS mem 13 [s, (i : Int), 9] [IntKind.i64.wrap (b + s)])) (by kernel_rfl) (by rw [w2]))
  have h10 : Runs (mdN data k x) 1 (stS mem 13 [s, (i : Int), 9] [s + b]) (stS mem 14 [s + b, (i : Int), 9] []) := one_step (k := 13) 1 rfl hm (by simp) (by kernel_rfl) (by simp) (by kernel_rfl)
  have h11 : Runs (mdN data k x) 1 (stS mem 14 [s + b, (i : Int), 9] []) (stS mem 15 [s + b, (i : Int), 9] [(i : Int)]) := one_step (k := 14) 0 rfl hm (by simp) (by kernel_rfl) (by simp) (by kernel_rfl)
  have h12 : Runs (mdN data k x) 1 (stS mem 15 [s + b, (i : Int), 9] [(i : Int)]) (stS mem 16 [s + b, (i : Int), 9] [(i : Int), 1]) := one_step (k := 15) 0 rfl hm (by simp) (by kernel_rfl) (by simp) (by kernel_rfl)
  have h13 : Runs (mdN data k x) 1 (stS mem 16 [s + b, (i : Int), 9] [(i : Int), 1]) (stS mem 17 [s + b, (i : Int), 9] [((i + 1 : Nat) : Int)]) := one_step (k := 16) 2 rfl hm (by simp) (by kernel_rfl) (by simp) (Eq.trans (b := some (stS mem 17 [s + b, (i : Int), 9] [IntKind.i64.wrap ((i : Int) + 1)])) (by kernel_rfl) (by rw [w3]))
  have h14 : Runs (mdN data k x) 1 (stS mem 17 [s + b, (i : Int), 9] [((i + 1 : Nat) : Int)]) (stS mem 18 [s + b, ((i + 1 : Nat) : Int), 9] []) := one_step (k := 17) 1 rfl hm (by simp) (by kernel_rfl) (by simp) (by kernel_rfl)
  have h15 : Runs (mdN data k x) 1 (stS mem 18 [s + b, ((i + 1 : Nat) : Int), 9] []) (stS mem 4 [s + b, ((i + 1 : Nat) : Int), 9] []) := one_step (k := 18) 0 rfl hm (by simp) (by kernel_rfl) (by simp) (by kernel_rfl)
  exact ((((((((((((((h1.trans h2).trans h3).trans h4).trans h5).trans h6).trans h7).trans h8).trans h9).trans h10).trans h11).trans h12).trans h13).trans h14).trans h15)
theorem loopS {data mem : List Int} {k x : Int} (hm : mem.length ≤ 2 ^ 20) (hd : ∀ b ∈ data, 0 ≤ b ∧ b < 256) (hl : data.length ≤ 200) (hml : data.length ≤ mem.length) (hg : ∀ i, i < data.length → mem.getD i 0 = data.getD i 0) : ∀ i : Nat, i ≤ data.length → Runs (mdN data k x) (15 * i) (stS mem 4 [0, 0, 9] []) (stS mem 4 [(data.take i).sum, (i : Int), 9] [])
  | 0, _ => by simpa using Runs.zero
  | i + 1, h => by
    have ih := loopS (k := k) (x := x) hm hd hl hml hg i (by omega)
    have hr := sum_range hd i (by omega)
    have hb := hd _ (List.getElem_mem (by omega : i < data.length))
    have e : mem.getD i 0 = data[i] := by rw [hg i (by omega)]; exact getD_lt _ _ (by omega)
    rw [sum_succ data (by omega), Nat.mul_succ]
    exact ih.trans (iterS hm (by omega) e (by omega) hb.1 hb.2 hr.1 (by omega) (by omega))
theorem startS {data mem : List Int} {k x : Int} (hm : mem.length ≤ 2 ^ 20) : Runs (mdN data k x) 4 (stS mem 0 [9, 9, 9] []) (stS mem 4 [0, 0, 9] []) := by
  have h1 : Runs (mdN data k x) 1 (stS mem 0 [9, 9, 9] []) (stS mem 1 [9, 9, 9] [0]) := one_step (k := 0) 0 rfl hm (by simp) (by kernel_rfl) (by simp) (by kernel_rfl)
  have h2 : Runs (mdN data k x) 1 (stS mem 1 [9, 9, 9] [0]) (stS mem 2 [0, 9, 9] []) := one_step (k := 1) 1 rfl hm (by simp) (by kernel_rfl) (by simp) (by kernel_rfl)
  have h3 : Runs (mdN data k x) 1 (stS mem 2 [0, 9, 9] []) (stS mem 3 [0, 9, 9] [0]) := one_step (k := 2) 0 rfl hm (by simp) (by kernel_rfl) (by simp) (by kernel_rfl)
  have h4 : Runs (mdN data k x) 1 (stS mem 3 [0, 9, 9] [0]) (stS mem 4 [0, 0, 9] []) := one_step (k := 3) 1 rfl hm (by simp) (by kernel_rfl) (by simp) (by kernel_rfl)
  exact ((h1.trans h2).trans h3).trans h4
theorem endS {data mem : List Int} {k : Nat} {x s : Int} (hl : data.length ≤ 200) (hk : k ≤ 255) (hml : mem.length = 600) (hx0 : -9223372036854775808 ≤ x) (hx1 : x ≤ 9223372036854775807) : Runs (mdN data k x) 17 (stS mem 4 [s, (data.length : Int), 9] []) ⟨storeF (storeF (storeF mem data.length s 8) (k + 300) x 8) (data.length + 8) x 8, [], false, 0, [], 0⟩ := by
  have hm : mem.length ≤ 2 ^ 20 := by omega
  have w1 : truthM (decide ((data.length : Int) < (data.length : Int))) = 0 := by simp [truthM]
  have l1 : (storeF mem data.length s 8).length = 600 := by rw [storeF_len, hml]
  have l2 : (storeF (storeF mem data.length s 8) (k + 300) x 8).length = 600 := by rw [storeF_len, l1]
  have t1 : ((k : Int) + 300).toNat = k + 300 := by omega
  have t2 : ((data.length : Int) + 8).toNat = data.length + 8 := by omega
  have o1 : memOk mem.length (data.length : Int) 8 = true := by simp [memOk, hml]; omega
  have o2 : memOk (storeF mem data.length s 8).length ((k : Int) + 300) 8 = true := by simp [memOk, l1]; omega
  have o3 : memOk (storeF (storeF mem data.length s 8) (k + 300) x 8).length ((k : Int) + 300) 8 = true := by simp [memOk, l2]; omega
  have o4 : memOk (storeF (storeF mem data.length s 8) (k + 300) x 8).length ((data.length : Int) + 8) 8 = true := by simp [memOk, l2]; omega
  have w4 : touchM 23 [(data.length : Int), s] mem = some (some (storeF mem data.length s 8, [])) := by
    simp [touchM, touchN, o1]
  have w5 : touchM 23 [(k : Int) + 300, x] (storeF mem data.length s 8) = some (some (storeF (storeF mem data.length s 8) (k + 300) x 8, [])) := by
    simp [touchM, touchN, o2, t1]
  have w6 : touchM 22 [(k : Int) + 300] (storeF (storeF mem data.length s 8) (k + 300) x 8) = some (some (storeF (storeF mem data.length s 8) (k + 300) x 8, [x])) := by
    have := load_bytes x hx0 hx1 (storeF (storeF mem data.length s 8) (k + 300) x 8) (k + 300) (fun j hj => by
      rw [storeF_getD _ _ _ _ _ (by omega) (by omega), if_pos (by omega), Nat.add_sub_cancel_left])
    simp [touchM, touchN, o3, t1, this]
  have w7 : touchM 23 [(data.length : Int) + 8, x] (storeF (storeF mem data.length s 8) (k + 300) x 8) = some (some (storeF (storeF (storeF mem data.length s 8) (k + 300) x 8) (data.length + 8) x 8, [])) := by
    simp [touchM, touchN, o4, t2]
  have hm1 : (storeF mem data.length s 8).length ≤ 2 ^ 20 := by omega
  have hm2 : (storeF (storeF mem data.length s 8) (k + 300) x 8).length ≤ 2 ^ 20 := by omega
  have hm3 : (storeF (storeF (storeF mem data.length s 8) (k + 300) x 8) (data.length + 8) x 8).length ≤ 2 ^ 20 := by rw [storeF_len]; omega
  generalize storeF (storeF (storeF mem data.length s 8) (k + 300) x 8) (data.length + 8) x 8 = mem3 at *
  generalize storeF (storeF mem data.length s 8) (k + 300) x 8 = mem2 at *
  generalize storeF mem data.length s 8 = mem1 at *
  have h1 : Runs (mdN data k x) 1 (stS mem 4 [s, (data.length : Int), 9] []) (stS mem 5 [s, (data.length : Int), 9] [(data.length : Int)]) := one_step (k := 4) 0 rfl hm (by simp) (by kernel_rfl) (by simp) (by kernel_rfl)
  have h2 : Runs (mdN data k x) 1 (stS mem 5 [s, (data.length : Int), 9] [(data.length : Int)]) (stS mem 6 [s, (data.length : Int), 9] [(data.length : Int), (data.length : Int)]) := one_step (k := 5) 0 rfl hm (by simp) (by kernel_rfl) (by simp) (by kernel_rfl)
  have h3 : Runs (mdN data k x) 1 (stS mem 6 [s, (data.length : Int), 9] [(data.length : Int), (data.length : Int)]) (stS mem 7 [s, (data.length : Int), 9] [0]) := one_step (k := 6) 2 rfl hm (by simp) (by kernel_rfl) (by simp) (Eq.trans (b := some (stS mem 7 [s, (data.length : Int), 9] [truthM (decide ((data.length : Int) < (data.length : Int)))])) (by kernel_rfl) (by rw [w1]))
  have h4 : Runs (mdN data k x) 1 (stS mem 7 [s, (data.length : Int), 9] [0]) (stS mem 8 [s, (data.length : Int), 9] [1]) := one_step (k := 7) 1 rfl hm (by simp) (by kernel_rfl) (by simp) (by kernel_rfl)
  have h5 : Runs (mdN data k x) 1 (stS mem 8 [s, (data.length : Int), 9] [1]) (stS mem 19 [s, (data.length : Int), 9] []) := one_step (k := 8) 1 rfl hm (by simp) (by kernel_rfl) (by simp) (by kernel_rfl)
  have h6 : Runs (mdN data k x) 1 (stS mem 19 [s, (data.length : Int), 9] []) (stS mem 20 [s, (data.length : Int), 9] [(data.length : Int)]) := one_step (k := 19) 0 rfl hm (by simp) (by kernel_rfl) (by simp) (by kernel_rfl)
  have h7 : Runs (mdN data k x) 1 (stS mem 20 [s, (data.length : Int), 9] [(data.length : Int)]) (stS mem 21 [s, (data.length : Int), 9] [(data.length : Int), s]) := one_step (k := 20) 0 rfl hm (by simp) (by kernel_rfl) (by simp) (by kernel_rfl)
  have h8 : Runs (mdN data k x) 1 (stS mem 21 [s, (data.length : Int), 9] [(data.length : Int), s]) (stS mem1 22 [s, (data.length : Int), 9] []) := one_step (k := 21) 2 rfl hm (by simp) (by kernel_rfl) (by simp) (by simp [insM, stS, w4])
  have h9 : Runs (mdN data k x) 1 (stS mem1 22 [s, (data.length : Int), 9] []) (stS mem1 23 [s, (data.length : Int), 9] [(k : Int) + 300]) := one_step (k := 22) 0 rfl hm1 (by simp) (by kernel_rfl) (by simp) (by kernel_rfl)
  have h10 : Runs (mdN data k x) 1 (stS mem1 23 [s, (data.length : Int), 9] [(k : Int) + 300]) (stS mem1 24 [s, (data.length : Int), 9] [(k : Int) + 300, x]) := one_step (k := 23) 0 rfl hm1 (by simp) (by kernel_rfl) (by simp) (by kernel_rfl)
  have h11 : Runs (mdN data k x) 1 (stS mem1 24 [s, (data.length : Int), 9] [(k : Int) + 300, x]) (stS mem2 25 [s, (data.length : Int), 9] []) := one_step (k := 24) 2 rfl hm1 (by simp) (by kernel_rfl) (by simp) (by simp [insM, stS, w5])
  have h12 : Runs (mdN data k x) 1 (stS mem2 25 [s, (data.length : Int), 9] []) (stS mem2 26 [s, (data.length : Int), 9] [(k : Int) + 300]) := one_step (k := 25) 0 rfl hm2 (by simp) (by kernel_rfl) (by simp) (by kernel_rfl)
  have h13 : Runs (mdN data k x) 1 (stS mem2 26 [s, (data.length : Int), 9] [(k : Int) + 300]) (stS mem2 27 [s, (data.length : Int), 9] [x]) := one_step (k := 26) 1 rfl hm2 (by simp) (by kernel_rfl) (by simp) (by simp [insM, stS, w6])
  have h14 : Runs (mdN data k x) 1 (stS mem2 27 [s, (data.length : Int), 9] [x]) (stS mem2 28 [s, (data.length : Int), 9] [x, (data.length : Int) + 8]) := one_step (k := 27) 0 rfl hm2 (by simp) (by kernel_rfl) (by simp) (by kernel_rfl)
  have h15 : Runs (mdN data k x) 1 (stS mem2 28 [s, (data.length : Int), 9] [x, (data.length : Int) + 8]) (stS mem2 29 [s, (data.length : Int), 9] [(data.length : Int) + 8, x]) := one_step (k := 28) 2 rfl hm2 (by simp) (by kernel_rfl) (by simp) (by kernel_rfl)
  have h16 : Runs (mdN data k x) 1 (stS mem2 29 [s, (data.length : Int), 9] [(data.length : Int) + 8, x]) (stS mem3 30 [s, (data.length : Int), 9] []) := one_step (k := 29) 2 rfl hm2 (by simp) (by kernel_rfl) (by simp) (by simp [insM, stS, w7])
  have h17 : Runs (mdN data k x) 1 (stS mem3 30 [s, (data.length : Int), 9] []) ⟨mem3, [], false, 0, [], 0⟩ := one_step (k := 30) 0 rfl hm3 (by decide) (by kernel_rfl) (by decide) (by kernel_rfl)
  exact ((((((((((((((((h1.trans h2).trans h3).trans h4).trans h5).trans h6).trans h7).trans h8).trans h9).trans h10).trans h11).trans h12).trans h13).trans h14).trans h15).trans h16).trans h17)
def mS0 (data : List Int) : List Int := data ++ List.replicate (600 - data.length) 0
def mS3 (data : List Int) (k : Nat) (x : Int) : List Int := storeF (storeF (storeF (mS0 data) data.length data.sum 8) (k + 300) x 8) (data.length + 8) x 8
theorem mS0_len {data : List Int} (hl : data.length ≤ 200) : (mS0 data).length = 600 := by simp [mS0]; omega
theorem mS3_len {data : List Int} (hl : data.length ≤ 200) (k : Nat) (x : Int) : (mS3 data k x).length = 600 := by
  unfold mS3; rw [storeF_len, storeF_len, storeF_len, mS0_len hl]
theorem mS3_sum {data : List Int} (hl : data.length ≤ 200) {k : Nat} (hk : k ≤ 255) (x : Int) (j : Nat) (hj : j < 8) : (mS3 data k x).getD (data.length + j) 0 = byteI data.sum j := by
  have h0 := mS0_len hl
  unfold mS3
  rw [storeF_getD _ _ _ _ _ (by simp only [storeF_len]; omega) (by simp only [storeF_len]; omega), if_neg (by omega), storeF_getD _ _ _ _ _ (by simp only [storeF_len]; omega) (by simp only [storeF_len]; omega), if_neg (by omega), storeF_getD _ _ _ _ _ (by omega) (by omega), if_pos (by omega), Nat.add_sub_cancel_left]
theorem mS3_x {data : List Int} (hl : data.length ≤ 200) {k : Nat} (hk : k ≤ 255) (x : Int) (j : Nat) (hj : j < 8) : (mS3 data k x).getD (data.length + 8 + j) 0 = byteI x j := by
  have h0 := mS0_len hl
  unfold mS3
  rw [storeF_getD _ _ _ _ _ (by simp only [storeF_len]; omega) (by simp only [storeF_len]; omega), if_pos (by omega), Nat.add_sub_cancel_left]
theorem runS {data : List Int} {k : Nat} {x : Int} (hd : ∀ b ∈ data, 0 ≤ b ∧ b < 256) (hl : data.length ≤ 200) (hk : k ≤ 255) (hx0 : -9223372036854775808 ≤ x) (hx1 : x ≤ 9223372036854775807) : ∃ u : Nat, runM (mdN data k x) (stS (mS0 data) 0 [9, 9, 9] []) 5000 = some (⟨mS3 data k x, [], false, 0, [], 0⟩, ⟨1, 0, u, 0, []⟩) := by
  have h0 := mS0_len hl
  have hg : ∀ i, i < data.length → (mS0 data).getD i 0 = data.getD i 0 := by
    intro i hi
    simp [mS0, List.getElem?_append_left hi]
  have h1 := startS (data := data) (k := k) (x := x) (mem := mS0 data) (by omega)
  have h2 := loopS (k := k) (x := x) (by omega) hd hl (by omega) hg data.length (Nat.le_refl _)
  rw [List.take_length] at h2
  have h3 := endS (s := data.sum) hl hk h0 hx0 hx1
  have h := ((h1.trans h2).trans h3).ends (N := 5000) rfl (by omega)
  refine ⟨4 + 15 * data.length + 17, ?_⟩
  unfold runM
  rw [if_neg (by simp [stS]), show fuelM 5000 = 5000 from by decide, h]
  rfl
theorem rightN (data : List Int) (k x : Int) : rightM (mdN data k x) = true := by
  have := fnRS data.length k x
  simp [rightM, mdN, md1, this]
theorem smS {data : List Int} (hl : data.length ≤ 200) (k x : Int) : mdSm (mdSu data k x) = true := by
  have : data.length ≤ 2 ^ 40 := by omega
  simp [mdSm, mdSu, md1, cS, this]
theorem smN (data : List Int) (k x : Int) : mdSm (mdN data k x) = true := by simp [mdSm, mdN, md1, cS]
theorem newS (data : List Int) (k x : Int) : newMd (mdSu data k x) = mdN data k x := rfl
theorem initS (data : List Int) (k x : Int) : initM (mdSu data k x) = ⟨mS0 data, [], false, 0, [], 0⟩ := rfl
theorem begS (data mem : List Int) (k x : Int) : beginM (mdN data k x) ⟨mem, [], false, 0, [], 0⟩ 9 9 9 = some (stS mem 0 [9, 9, 9] [], 0) := rfl
theorem memP_get {mem : List Int} {a : Nat} (h : a + 8 ≤ mem.length) : (memP mem a 8).length = 8 ∧ ∀ j, j < 8 → (memP mem a 8).getD j 0 = mem.getD (a + j) 0 := by
  have hm : memOk mem.length a 8 = true := by simp [memOk]; omega
  have e : memP mem a 8 = (mem.drop a).take 8 := by simp [memP, hm]
  rw [e]
  refine ⟨by simp; omega, fun j hj => ?_⟩
  simp [List.getElem?_take, hj, List.getElem?_drop]
end Go.Eng.M
