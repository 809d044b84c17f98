/-
  What this text proves: the contract of slices.Backward over a slice of api.Iv, for a range over it.
  Conditions: none.
-/
import Derived.RangeFuncBox
import Derived.RangeFuncLeaves
import Derived.RangeFuncNested
import Derived.WalkKit
import Derived.OwnWalkIn
import Derived.TacticsInMore
import Derived.LoopNIn
import Derived.LoopIn
import Derived.Test.YtmmlpaehehgfnaaHd
namespace Go.Proofs.Ytmmlpaehehgfnaa.Sx
open Go.RowKit
set_option linter.unusedSimpArgs false
set_option linter.unusedVariables false

attribute [local go_sem] Oper.semAt_some

def bkAt (zs : List Iv) (k : Nat) : Nat × Iv := (zs.length - 1 - k, zs.getD (zs.length - 1 - k) default)
/-- What has come when k rounds are over. -/
def bkUp (zs : List Iv) (k : Nat) : List (Nat × Iv) := (List.range k).map (bkAt zs)
theorem bkUp_succ (zs : List Iv) (k : Nat) : bkUp zs (k + 1) = bkUp zs k ++ [bkAt zs k] := by simp [bkUp, List.range_succ]
theorem bkUp_length (zs : List Iv) (k : Nat) : (bkUp zs k).length = k := by simp [bkUp]

abbrev ivV (v : Iv) : Value := .agg #[.int .i64 v.lo, .int .i64 v.hi, .bool v.no]
abbrev bkEnc (x : Nat × Iv) : Array Value := #[.int .i64 (x.1 : Int), ivV x.2]

set_option maxRecDepth 100000 in
set_option maxHeartbeats 2000000 in
theorem back1_in (F : Fence) (n : Nat) (ad : Option Addr) (h7 : F.fn 169) (hro : F.round = none) (hn : 1 ≤ n) (l Bs b off cap : Nat) (zs : List Iv) (hreach : zs.length ≤ maxLen) (Kp : World → World → Prop) (hKr : ∀ W, Kp W W) (hKt : ∀ A B C, Kp A B → Kp B C → Kp A C)
    (hKc : ∀ A B (j : Nat) v, Kp A B → j < zs.length * 3 → A.cell? ⟨b, off + j, none⟩ = some v → B.cell? ⟨b, off + j, none⟩ = some v) (hKb : ∀ A B v, Kp A B → A.cell? ⟨Bs, 0, none⟩ = some v → B.cell? ⟨Bs, 0, none⟩ = some v)
    (J Jx : List (Nat × Iv) → World → Prop)
    (hY : ∀ pre x W, J pre W → pre.length < zs.length → YieldAt F (n - 1) Try.prog l (bkEnc x) W fun e W' =>
      (e = .returned (.bool true) ∧ J (pre ++ [x]) W' ∧ Kp W W') ∨ (e = .returned (.bool false) ∧ Jx (pre ++ [x]) W'))
    (W : World) (hBs : W.cell? ⟨Bs, 0, none⟩ = some (.slice ad zs.length cap)) (had : 0 < zs.length → ad = some ⟨b, off, none⟩)
    (hc : ∀ j, j < zs.length → W.cell? ⟨b, off + j * 3, none⟩ = some (.int .i64 (zs.getD j default).lo) ∧ W.cell? ⟨b, off + j * 3 + 1, none⟩ = some (.int .i64 (zs.getD j default).hi) ∧ W.cell? ⟨b, off + j * 3 + 2, none⟩ = some (.bool (zs.getD j default).no)) (h0 : J [] W) :
    CallsIn F n Try.prog 169 #[.func (.yield l) #[] #[], .pointer (some ⟨Bs, 0, none⟩)] W fun e W' => (∃ v, e = .returned v) ∧
      ((∃ ys, ys = bkUp zs zs.length ∧ J ys W') ∨ (∃ pre, (∃ k, k ≤ zs.length ∧ pre = bkUp zs k) ∧ Jx pre W')) := by
  refine callsIn_of_wp Try.func169 rfl h7 ?_ hro
  simp only [Try.ntmps169, List.size_toArray, List.length_cons, List.length_nil, Nat.reduceAdd, Nat.reduceSub, Array.replicate_succ, Array.replicate_zero, List.push_toArray, List.append_toArray, List.nil_append, List.cons_append]
  have hml : zs.length < 9223372036854775808 := Nat.lt_of_le_of_lt hreach (by decide)
  gi_wp2
  gi_loopw [3] (fun i wr => ∃ k : Nat, k ≤ zs.length ∧ i = .int .i64 ((zs.length : Int) - 1 - k) ∧ J (bkUp zs k) wr ∧ Kp W wr)
    (fun i _ => (intOf i + 1).toNat)
  case atStart => exact ⟨0, Nat.zero_le _, by simp, h0, hKr W⟩
  case round =>
    obtain ⟨k, hk, rfl, hJs, hnx⟩ := hrel
    have hBs' := hKb _ _ _ hnx hBs
    by_cases hlt : k < zs.length
    · obtain rfl := had (by omega)
      obtain ⟨c1, c2, c3⟩ := hc (zs.length - 1 - k) (by omega)
      have c1' := hKc W wr ((zs.length - 1 - k) * 3) _ hnx (by omega) c1
      have c2' := hKc W wr ((zs.length - 1 - k) * 3 + 1) _ hnx (by omega) c2
      rw [← Nat.add_assoc] at c2'
      have c3' := hKc W wr ((zs.length - 1 - k) * 3 + 2) _ hnx (by omega) c3
      rw [← Nat.add_assoc] at c3'
      obtain ⟨fn, tmps, assign, body, hy, hR⟩ := hY _ (bkAt zs k) wr hJs (by rw [bkUp_length]; exact hlt)
      have hi : ((zs.length : Int) - 1 - k) = ((zs.length - 1 - k : Nat) : Int) := by omega
      rw [hi]
      generalize hv : zs.getD (zs.length - 1 - k) default = v at *
      have hbk : bkAt zs k = (zs.length - 1 - k, v) := by rw [bkAt, hv]
      rw [hbk] at hy hR
      simp only [bkEnc, ivV] at hy
      generalize zs.length - 1 - k = i at *
      gi_wp2
      refine hR.mono ?_
      rintro e W3 (⟨rfl, hJ3, hk3⟩ | ⟨rfl, hJx3⟩)
      · gi_wp2
        go_roundw
        case rel => exact ⟨k + 1, by omega, by congr 1; omega, by rw [bkUp_succ, hbk]; exact hJ3, hKt _ _ _ hnx hk3⟩
        case measure => simp [intOf]
      · gi_wp2
        refine bodyPost_ret (results_none rfl _ _ _) rfl ?_
        exact ⟨⟨_, rfl⟩, .inr ⟨_, ⟨k + 1, by omega, by rw [bkUp_succ, hbk]⟩, hJx3⟩⟩
    · obtain rfl : k = zs.length := by omega
      gi_wp2
      go_end0
      exact ⟨⟨_, rfl⟩, .inl ⟨_, rfl, hJs⟩⟩

set_option maxHeartbeats 1000000 in
/-- slices.Backward(s): the slice is boxed; the function value captures the box. -/
theorem back_in (F : Fence) (n : Nat) (h5 : F.fn 150) (hro : F.round = none) (a : Option Addr) (len cap : Nat) (w : World) :
    CallsIn F n Try.prog 150 #[.slice a len cap] w fun e w' => e = .returned (.func (.func 169) #[] #[.pointer (some ⟨w.heap.size, 0, none⟩)]) ∧ w' = w.alloc (.cells #[.slice a len cap] 53) := by
  refine callsIn_of_wp Try.func150 rfl h5 ?_ hro
  simp only [Try.ntmps150, List.size_toArray, List.length_cons, List.length_nil, Nat.reduceAdd, Nat.reduceSub, Array.replicate_succ, Array.replicate_zero, List.push_toArray, List.append_toArray, List.nil_append, List.cons_append]
  gi_wp2
  go_ret
  exact ⟨rfl, rfl⟩

theorem back_stops (F : Fence) (n : Nat) (ad : Option Addr) (h7 : F.fn 169) (hro : F.round = none) (hn : 1 ≤ n) (Bs b off cap : Nat) (zs : List Iv) (hreach : zs.length ≤ maxLen) (Kp : World → World → Prop) (hKr : ∀ W, Kp W W) (hKt : ∀ A B C, Kp A B → Kp B C → Kp A C)
    (hKc : ∀ A B (j : Nat) v, Kp A B → j < zs.length * 3 → A.cell? ⟨b, off + j, none⟩ = some v → B.cell? ⟨b, off + j, none⟩ = some v) (hKb : ∀ A B v, Kp A B → A.cell? ⟨Bs, 0, none⟩ = some v → B.cell? ⟨Bs, 0, none⟩ = some v)
    (w : World) (hBs : w.cell? ⟨Bs, 0, none⟩ = some (.slice ad zs.length cap)) (had : 0 < zs.length → ad = some ⟨b, off, none⟩) (hB : Bs < w.heap.size)
    (hc : ∀ j, j < zs.length → w.cell? ⟨b, off + j * 3, none⟩ = some (.int .i64 (zs.getD j default).lo) ∧ w.cell? ⟨b, off + j * 3 + 1, none⟩ = some (.int .i64 (zs.getD j default).hi) ∧ w.cell? ⟨b, off + j * 3 + 2, none⟩ = some (.bool (zs.getD j default).no)) (hb : 0 < zs.length → b < w.heap.size) :
    SeqStopsK F n Try.prog 169 #[.pointer (some ⟨Bs, 0, none⟩)] bkEnc Kp (fun ys => ys = bkUp zs zs.length) (fun pre => ∃ k, k ≤ zs.length ∧ pre = bkUp zs k) zs.length w := fun l J Jx W hW _ _ hY h0 => by
  refine back1_in F n ad h7 hro hn l Bs b off cap zs hreach Kp hKr hKt hKc hKb J Jx hY W ((hW.cell (p := ⟨Bs, 0, none⟩) hB).trans hBs) had (fun j hj => ?_) h0
  have hb' := hb (by omega)
  obtain ⟨c1, c2, c3⟩ := hc j hj
  exact ⟨(hW.cell (p := ⟨b, _, none⟩) hb').trans c1, (hW.cell (p := ⟨b, _, none⟩) hb').trans c2, (hW.cell (p := ⟨b, _, none⟩) hb').trans c3⟩

end Go.Proofs.Ytmmlpaehehgfnaa.Sx
