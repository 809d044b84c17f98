/-
  What this text proves: frames and blocks made of data that lie in a world ('mkSt', 'mk_rel'), and a frame's data read back ('dpSt').
  Conditions: none.
-/
import Derived.Test.YtmmlpaehehgfnaaSxG
namespace Go.Proofs.Ytmmlpaehehgfnaa.Sx
open Go.RowKit
set_option linter.unusedSimpArgs false
set_option linter.unusedVariables false

structure Rel (w0 : World) (F : FM) (N : Nat) (ρ : Nm) (σ : St) (a : Act) (w : World) : Prop where
  wr : WR w0 ρ σ.hp w
  fr : FR ρ σ.hp σ.fr N a
  free : ∀ i, σ.nx ≤ i → σ.hp i = none
  f : ρ.f = F

/-! ### Data into names -/

def mkS (n : Nat) : Sd → Sc × List Bk
  | .v x => (.v x, [])
  | .p i off => (.p i off, [])
  | .sl d m => (.sl n, [.sl d m])
  | .r cs => (.p n 0, [.ro cs])
  | .opq => (.opq, [])
  | .clo .. => (.v undef, [])

def mkL : Nat → List Sd → List Sc × List Bk
  | _, [] => ([], [])
  | n, x :: l => match mkS n x with
    | (y, b) => match mkL (n + b.length) l with
      | (ys, bs) => (y :: ys, b ++ bs)

def mkA (n : Nat) : AD → AV × List Bk
  | .s x => match mkS n x with
    | (y, b) => (.s y, b)
  | .agg l => match mkL n l with
    | (ys, b) => (.agg ys, b)

def mkAs : Nat → List AD → List AV × List Bk
  | _, [] => ([], [])
  | n, x :: l => match mkA n x with
    | (y, b) => match mkAs (n + b.length) l with
      | (ys, bs) => (y :: ys, b ++ bs)

def mkR (n : Nat) : RD → FV × List Bk
  | .a x => match mkA n x with
    | (y, b) => (.a y, b)
  | .tup l => match mkAs n l with
    | (ys, b) => (.tup ys, b)

def mkRs : Nat → List RD → List FV × List Bk
  | _, [] => ([], [])
  | n, x :: l => match mkR n x with
    | (y, b) => match mkRs (n + b.length) l with
      | (ys, bs) => (y :: ys, b ++ bs)

def mkBs : Nat → List (List Sd) → List (List Sc) × List Bk
  | _, [] => ([], [])
  | n, x :: l => match mkL n x with
    | (y, b) => match mkBs (n + b.length) l with
      | (ys, bs) => (y :: ys, b ++ bs)

/-! ### What lies there -/

abbrev Src := Option Nat × Nat × Value

/-- Data, their values, and what new names stand for (whence, block, value). -/
def Fit (w0 w : World) (ρ : Nm) (hs : List Nat) : Sd → Value → List Src → Prop
  | .v x, y, ns => y = x ∧ x.oneCell' = true ∧ ns = []
  | .p i off, y, ns => y = .pointer (some ⟨ρ.b i, off, none⟩) ∧ i ∈ hs ∧ ns = []
  | .sl d m, y, ns => ∃ src, ns = [(src, 0, y)] ∧ Fact w0 w ρ 0 y (.sl d m) ∧ (∀ i, src = some i → ρ.s i = y) ∧ (src = none → (∃ e, m = .mine e) → y.ownBlock = none)
  | .r cs, y, ns => ∃ b, y = ptr b ∧ ns = [(none, b, undef)] ∧ Fact w0 w ρ b undef (.ro cs)
  | .opq, y, ns => y = ρ.f.f ∧ ns = []
  | .clo .., _, _ => False

def FitL (w0 w : World) (ρ : Nm) (hs : List Nat) : List Sd → List Value → List Src → Prop
  | [], [], ns => ns = []
  | x :: l, y :: m, ns => ∃ n1 n2, ns = n1 ++ n2 ∧ Fit w0 w ρ hs x y n1 ∧ FitL w0 w ρ hs l m n2
  | _, _, _ => False

def FitA (w0 w : World) (ρ : Nm) (hs : List Nat) : AD → Value → List Src → Prop
  | .s x, y, ns => Fit w0 w ρ hs x y ns
  | .agg l, y, ns => ∃ m, y = .agg (List.toArray m) ∧ FitL w0 w ρ hs l m ns

def FitAs (w0 w : World) (ρ : Nm) (hs : List Nat) : List AD → List Value → List Src → Prop
  | [], [], ns => ns = []
  | x :: l, y :: m, ns => ∃ n1 n2, ns = n1 ++ n2 ∧ FitA w0 w ρ hs x y n1 ∧ FitAs w0 w ρ hs l m n2
  | _, _, _ => False

def FitR (w0 w : World) (ρ : Nm) (hs : List Nat) : RD → Value → List Src → Prop
  | .a x, y, ns => FitA w0 w ρ hs x y ns
  | .tup l, y, ns => ∃ m, y = .tuple (List.toArray m) ∧ FitAs w0 w ρ hs l m ns

def FitRs (w0 w : World) (ρ : Nm) (hs : List Nat) : List RD → List Value → List Src → Prop
  | [], [], ns => ns = []
  | x :: l, y :: m, ns => ∃ n1 n2, ns = n1 ++ n2 ∧ FitR w0 w ρ hs x y n1 ∧ FitRs w0 w ρ hs l m n2
  | _, _, _ => False

def FitBs (w0 w : World) (ρ : Nm) (hs : List Nat) : List (List Sd) → List (List Value) → List Src → Prop
  | [], [], ns => ns = []
  | x :: l, y :: m, ns => ∃ n1 n2, ns = n1 ++ n2 ∧ FitL w0 w ρ hs x y n1 ∧ FitBs w0 w ρ hs l m n2
  | _, _, _ => False

/-- Names from n on stand for these. -/
def Named (ρ' : Nm) (n : Nat) (ns : List Src) : Prop := ∀ (r : Nat) (p : Src), ns[r]? = some p → ρ'.b (n + r) = p.2.1 ∧ ρ'.s (n + r) = p.2.2

/-- Blocks made are what the names say. -/
structure Made (w0 w : World) (ρ : Nm) (bks : List Bk) (ns : List Src) : Prop where
  len : bks.length = ns.length
  fact : ∀ (r : Nat) (bk : Bk) (p : Src), bks[r]? = some bk → ns[r]? = some p → Fact w0 w ρ p.2.1 p.2.2 bk ∧ (∀ cs, bk ≠ .own cs) ∧ bk ≠ .dead ∧ (∀ i, p.1 = some i → ρ.s i = p.2.2) ∧ (p.1 = none → ∀ d e, bk = .sl d (.mine e) → p.2.2.ownBlock = none)

theorem Made.nil {w0 w : World} {ρ : Nm} : Made w0 w ρ [] [] := ⟨rfl, fun r bk p h => by simp at h⟩

theorem Made.append {w0 w : World} {ρ : Nm} {b1 b2 : List Bk} {n1 n2 : List Src} (h1 : Made w0 w ρ b1 n1) (h2 : Made w0 w ρ b2 n2) : Made w0 w ρ (b1 ++ b2) (n1 ++ n2) := by
  refine ⟨by simp [h1.len, h2.len], fun r bk p hb hp => ?_⟩
  by_cases hr : r < b1.length
  · rw [List.getElem?_append_left hr] at hb
    rw [List.getElem?_append_left (by rw [← h1.len]; exact hr)] at hp
    exact h1.fact r bk p hb hp
  · rw [List.getElem?_append_right (by omega)] at hb
    rw [List.getElem?_append_right (by rw [← h1.len]; omega), ← h1.len] at hp
    exact h2.fact _ bk p hb hp

theorem Named.left {ρ' : Nm} {n : Nat} {n1 n2 : List Src} (h : Named ρ' n (n1 ++ n2)) : Named ρ' n n1 := fun r p hp => h r p (by rw [List.getElem?_append_left (List.getElem?_eq_some_iff.1 hp).1]; exact hp)

theorem Named.right {ρ' : Nm} {n : Nat} {n1 n2 : List Src} (h : Named ρ' n (n1 ++ n2)) : Named ρ' (n + n1.length) n2 := fun r p hp => by
  have := h (n1.length + r) p (by rw [List.getElem?_append_right (by omega)]; simpa using hp)
  rwa [← Nat.add_assoc] at this

/-- A cell's names are one's own blocks, or new ones. -/
def ScIn (hs : List Nat) (n : Nat) (bks : List Bk) : Sc → Prop
  | .v x => x.oneCell' = true
  | .p i _ => i ∈ hs ∨ ∃ r cs, i = n + r ∧ bks[r]? = some (.ro cs)
  | .sl i => ∃ r d m, i = n + r ∧ bks[r]? = some (.sl d m)
  | .opq => True
  | _ => False

theorem ScIn.left {hs : List Nat} {n : Nat} {b1 b2 : List Bk} {x : Sc} (h : ScIn hs n b1 x) : ScIn hs n (b1 ++ b2) x := by
  have key : ∀ {r bk}, b1[r]? = some bk → (b1 ++ b2)[r]? = some bk := fun {r bk} h => by rw [List.getElem?_append_left (List.getElem?_eq_some_iff.1 h).1]; exact h
  cases x with
  | v x => exact h
  | p i off =>
    rcases h with h | ⟨r, cs, h1, h2⟩
    · exact .inl h
    · exact .inr ⟨r, cs, h1, key h2⟩
  | sl i => obtain ⟨r, d, m, h1, h2⟩ := h; exact ⟨r, d, m, h1, key h2⟩
  | opq => trivial
  | e _ _ _ _ => exact h.elim
  | fn _ _ => exact h.elim

theorem ScIn.right {hs : List Nat} {n : Nat} {b1 b2 : List Bk} {x : Sc} (h : ScIn hs (n + b1.length) b2 x) : ScIn hs n (b1 ++ b2) x := by
  have key : ∀ {r bk}, b2[r]? = some bk → (b1 ++ b2)[b1.length + r]? = some bk := fun {r bk} h => by rw [List.getElem?_append_right (by omega)]; simpa using h
  cases x with
  | v x => exact h
  | p i off =>
    rcases h with h | ⟨r, cs, h1, h2⟩
    · exact .inl h
    · exact .inr ⟨_, cs, by rw [h1, Nat.add_assoc], key h2⟩
  | sl i => obtain ⟨r, d, m, h1, h2⟩ := h; exact ⟨_, d, m, by rw [h1, Nat.add_assoc], key h2⟩
  | opq => trivial
  | e _ _ _ _ => exact h.elim
  | fn _ _ => exact h.elim

section
variable {w0 w : World} {ρ : Nm} {hs : List Nat}

/-- What new names, of those values, make of cells. -/
structure Good (ρ : Nm) (hs : List Nat) (n : Nat) (ns : List Src) (con : Nm → Prop) : Prop where
  con : ∀ ρ' : Nm, ρ'.f = ρ.f → (∀ i ∈ hs, ρ'.b i = ρ.b i) → Named ρ' n ns → con ρ'

theorem mkS_ok {n : Nat} {x : Sd} {v : Value} {ns : List Src} (h : Fit w0 w ρ hs x v ns) :
    Made w0 w ρ (mkS n x).2 ns ∧ Good ρ hs n ns (fun ρ' => (mkS n x).1.con ρ' = v) ∧ ScIn hs n (mkS n x).2 (mkS n x).1 := by
  cases x with
  | v x => obtain ⟨rfl, h1, rfl⟩ := h; exact ⟨Made.nil, ⟨fun _ _ _ _ => rfl⟩, h1⟩
  | p i off =>
    obtain ⟨rfl, hi, rfl⟩ := h
    exact ⟨Made.nil, ⟨fun ρ' _ hb _ => by simp only [mkS, Sc.con]; rw [hb i hi]⟩, .inl hi⟩
  | opq => obtain ⟨rfl, rfl⟩ := h; exact ⟨Made.nil, ⟨fun ρ' hf _ _ => by simp only [mkS, Sc.con, hf]⟩, trivial⟩
  | clo f cs => exact h.elim
  | sl d m =>
    obtain ⟨src, rfl, hf, h1, h2⟩ := h
    refine ⟨⟨rfl, fun r bk p hb hp => ?_⟩, ⟨fun ρ' _ _ hn => ?_⟩, ⟨0, d, m, rfl, rfl⟩⟩
    · cases r with
      | zero =>
        simp only [mkS, List.getElem?_cons_zero, Option.some.injEq] at hb hp
        subst hb; subst hp
        exact ⟨hf, by simp, by simp, h1, fun h0 d' e he => h2 h0 ⟨e, by cases he; rfl⟩⟩
      | succ r => simp [mkS] at hb
    · have := (hn 0 _ rfl).2
      simpa [mkS, Sc.con] using this
  | r cs =>
    obtain ⟨b, rfl, rfl, hf⟩ := h
    refine ⟨⟨rfl, fun r bk p hb hp => ?_⟩, ⟨fun ρ' _ _ hn => ?_⟩, .inr ⟨0, cs, rfl, rfl⟩⟩
    · cases r with
      | zero =>
        simp only [mkS, List.getElem?_cons_zero, Option.some.injEq] at hb hp
        subst hb; subst hp
        exact ⟨hf, by simp, by simp, by simp, by simp⟩
      | succ r => simp [mkS] at hb
    · have := (hn 0 _ rfl).1
      simp only [Nat.add_zero] at this
      simp [mkS, Sc.con, this, ptr]

theorem mkL_ok : ∀ {l : List Sd} {n : Nat} {vs : List Value} {ns : List Src}, FitL w0 w ρ hs l vs ns →
    Made w0 w ρ (mkL n l).2 ns ∧ Good ρ hs n ns (fun ρ' => (mkL n l).1.map (Sc.con ρ') = vs) ∧ ∀ c ∈ (mkL n l).1, ScIn hs n (mkL n l).2 c
  | [], n, [], ns, h => by
    cases h
    exact ⟨Made.nil, ⟨fun _ _ _ _ => rfl⟩, by simp [mkL]⟩
  | x :: l, n, v :: vs, ns, h => by
    obtain ⟨n1, n2, rfl, h1, h2⟩ := h
    obtain ⟨p1, p2, p3⟩ := mkS_ok (n := n) h1
    obtain ⟨q1, q2, q3⟩ := mkL_ok (n := n + (mkS n x).2.length) h2
    refine ⟨p1.append q1, ⟨fun ρ' hf hb hn => ?_⟩, fun c hc => ?_⟩
    · have e1 := p2.con ρ' hf hb hn.left
      have e2 := q2.con ρ' hf hb (by rw [p1.len]; exact hn.right)
      simp only [mkL, List.map_cons, e1, e2]
    · simp only [mkL] at hc ⊢
      rcases List.mem_cons.1 hc with rfl | hc
      · exact p3.left
      · exact (q3 c hc).right
  | [], _, _ :: _, _, h => h.elim
  | _ :: _, _, [], _, h => h.elim

theorem mkA_ok {n : Nat} {x : AD} {v : Value} {ns : List Src} (h : FitA w0 w ρ hs x v ns) :
    Made w0 w ρ (mkA n x).2 ns ∧ Good ρ hs n ns (fun ρ' => (mkA n x).1.con ρ' = v) ∧ ∀ c ∈ (mkA n x).1.cells, ScIn hs n (mkA n x).2 c := by
  cases x with
  | s x =>
    obtain ⟨p1, p2, p3⟩ := mkS_ok (n := n) h
    exact ⟨p1, ⟨p2.con⟩, by simpa [mkA, AV.cells] using p3⟩
  | agg l =>
    obtain ⟨m, rfl, h⟩ := h
    obtain ⟨p1, p2, p3⟩ := mkL_ok (n := n) h
    exact ⟨p1, ⟨fun ρ' hf hb hn => by simp only [mkA, AV.con]; rw [p2.con ρ' hf hb hn]⟩, p3⟩

theorem mkAs_ok : ∀ {l : List AD} {n : Nat} {vs : List Value} {ns : List Src}, FitAs w0 w ρ hs l vs ns →
    Made w0 w ρ (mkAs n l).2 ns ∧ Good ρ hs n ns (fun ρ' => (mkAs n l).1.map (AV.con ρ') = vs) ∧ ∀ y ∈ (mkAs n l).1, ∀ c ∈ y.cells, ScIn hs n (mkAs n l).2 c
  | [], n, [], ns, h => by
    cases h
    exact ⟨Made.nil, ⟨fun _ _ _ _ => rfl⟩, by simp [mkAs]⟩
  | x :: l, n, v :: vs, ns, h => by
    obtain ⟨n1, n2, rfl, h1, h2⟩ := h
    obtain ⟨p1, p2, p3⟩ := mkA_ok (n := n) h1
    obtain ⟨q1, q2, q3⟩ := mkAs_ok (n := n + (mkA n x).2.length) h2
    refine ⟨p1.append q1, ⟨fun ρ' hf hb hn => ?_⟩, fun y hy c hc => ?_⟩
    · have e1 := p2.con ρ' hf hb hn.left
      have e2 := q2.con ρ' hf hb (by rw [p1.len]; exact hn.right)
      simp only [mkAs, List.map_cons, e1, e2]
    · simp only [mkAs] at hy ⊢
      rcases List.mem_cons.1 hy with rfl | hy
      · exact (p3 c hc).left
      · exact (q3 y hy c hc).right
  | [], _, _ :: _, _, h => h.elim
  | _ :: _, _, [], _, h => h.elim

theorem mkR_ok {n : Nat} {x : RD} {v : Value} {ns : List Src} (h : FitR w0 w ρ hs x v ns) :
    Made w0 w ρ (mkR n x).2 ns ∧ Good ρ hs n ns (fun ρ' => (mkR n x).1.con ρ' = v) ∧ ∀ c ∈ (mkR n x).1.scs, ScIn hs n (mkR n x).2 c := by
  cases x with
  | a x =>
    obtain ⟨p1, p2, p3⟩ := mkA_ok (n := n) h
    exact ⟨p1, ⟨p2.con⟩, p3⟩
  | tup l =>
    obtain ⟨m, rfl, h⟩ := h
    obtain ⟨p1, p2, p3⟩ := mkAs_ok (n := n) h
    refine ⟨p1, ⟨fun ρ' hf hb hn => by simp only [mkR, FV.con]; rw [p2.con ρ' hf hb hn]⟩, fun c hc => ?_⟩
    simp only [mkR, FV.scs, List.mem_flatMap] at hc
    obtain ⟨y, hy, hc⟩ := hc
    exact p3 y hy c hc

theorem mkRs_ok : ∀ {l : List RD} {n : Nat} {vs : List Value} {ns : List Src}, FitRs w0 w ρ hs l vs ns →
    Made w0 w ρ (mkRs n l).2 ns ∧ Good ρ hs n ns (fun ρ' => (mkRs n l).1.map (FV.con ρ') = vs) ∧ ∀ y ∈ (mkRs n l).1, ∀ c ∈ y.scs, ScIn hs n (mkRs n l).2 c
  | [], n, [], ns, h => by
    cases h
    exact ⟨Made.nil, ⟨fun _ _ _ _ => rfl⟩, by simp [mkRs]⟩
  | x :: l, n, v :: vs, ns, h => by
    obtain ⟨n1, n2, rfl, h1, h2⟩ := h
    obtain ⟨p1, p2, p3⟩ := mkR_ok (n := n) h1
    obtain ⟨q1, q2, q3⟩ := mkRs_ok (n := n + (mkR n x).2.length) h2
    refine ⟨p1.append q1, ⟨fun ρ' hf hb hn => ?_⟩, fun y hy c hc => ?_⟩
    · have e1 := p2.con ρ' hf hb hn.left
      have e2 := q2.con ρ' hf hb (by rw [p1.len]; exact hn.right)
      simp only [mkRs, List.map_cons, e1, e2]
    · simp only [mkRs] at hy ⊢
      rcases List.mem_cons.1 hy with rfl | hy
      · exact (p3 c hc).left
      · exact (q3 y hy c hc).right
  | [], _, _ :: _, _, h => h.elim
  | _ :: _, _, [], _, h => h.elim

theorem mkBs_ok : ∀ {l : List (List Sd)} {n : Nat} {vs : List (List Value)} {ns : List Src}, FitBs w0 w ρ hs l vs ns →
    Made w0 w ρ (mkBs n l).2 ns ∧ Good ρ hs n ns (fun ρ' => (mkBs n l).1.map (List.map (Sc.con ρ')) = vs) ∧ ∀ y ∈ (mkBs n l).1, ∀ c ∈ y, ScIn hs n (mkBs n l).2 c
  | [], n, [], ns, h => by
    cases h
    exact ⟨Made.nil, ⟨fun _ _ _ _ => rfl⟩, by simp [mkBs]⟩
  | x :: l, n, v :: vs, ns, h => by
    obtain ⟨n1, n2, rfl, h1, h2⟩ := h
    obtain ⟨p1, p2, p3⟩ := mkL_ok (n := n) h1
    obtain ⟨q1, q2, q3⟩ := mkBs_ok (n := n + (mkL n x).2.length) h2
    refine ⟨p1.append q1, ⟨fun ρ' hf hb hn => ?_⟩, fun y hy c hc => ?_⟩
    · have e1 := p2.con ρ' hf hb hn.left
      have e2 := q2.con ρ' hf hb (by rw [p1.len]; exact hn.right)
      simp only [mkBs, List.map_cons, e1, e2]
    · simp only [mkBs] at hy ⊢
      rcases List.mem_cons.1 hy with rfl | hy
      · exact (p3 c hc).left
      · exact (q3 y hy c hc).right
  | [], _, _ :: _, _, h => h.elim
  | _ :: _, _, [], _, h => h.elim
end

/-! ### States made of data -/

def look : List Nat → List FV → Nat → FV
  | k :: ks, v :: vs, t => bif Nat.beq t k then v else look ks vs t
  | _, _, _ => .bad

def lookH : List Nat → List (List Sc) → Nat → Option Bk
  | k :: ks, v :: vs, t => bif Nat.beq t k then some (.own v) else lookH ks vs t
  | _, _, _ => none

def hpOf (hs : List Nat) (n : Nat) (bs : List (List Sc)) (bks : List Bk) : Nat → Option Bk :=
  fun i => bif Nat.blt i n then lookH hs bs i else bks[i - n]?

def mkSt (ks : List Nat) (rs : List RD) (hs : List Nat) (bs : List (List Sd)) (n : Nat) : St :=
  match mkRs n rs with
  | (fs, b1) => match mkBs (n + b1.length) bs with
    | (cs, b2) => ⟨look ks fs, hpOf hs n cs (b1 ++ b2), n + (b1 ++ b2).length⟩

theorem lookH_own : ∀ {hs : List Nat} {vs : List (List Sc)} {i : Nat} {b : Bk}, lookH hs vs i = some b → ∃ (r : Nat) (cs : List Sc), b = .own cs ∧ hs[r]? = some i ∧ vs[r]? = some cs
  | k :: ks, v :: vs, i, b, h => by
    simp only [lookH] at h
    cases hb : Nat.beq i k with
    | true =>
      simp [hb] at h; subst h
      exact ⟨0, v, rfl, by simp [Nat.eq_of_beq_eq_true hb], rfl⟩
    | false =>
      simp [hb] at h
      obtain ⟨r, cs, h1, h2, h3⟩ := lookH_own h
      exact ⟨r + 1, cs, h1, by simpa using h2, by simpa using h3⟩
  | [], _, _, _, h => by simp [lookH] at h
  | _ :: _, [], _, _, h => by simp [lookH] at h

theorem lookH_some : ∀ {hs : List Nat} {vs : List (List Sc)} {i : Nat}, hs.length = vs.length → i ∈ hs → ∃ cs, lookH hs vs i = some (.own cs)
  | k :: ks, v :: vs, i, hl, h => by
    simp only [lookH]
    cases hb : Nat.beq i k with
    | true => exact ⟨v, rfl⟩
    | false =>
      simp only [cond_false]
      rcases List.mem_cons.1 h with rfl | h
      · simp at hb
      · exact lookH_some (by simpa using hl) h
  | [], _, i, _, h => by cases h
  | _ :: _, [], _, hl, _ => by simp at hl

theorem look_at : ∀ {ks : List Nat} {vs : List FV} {t : Nat}, look ks vs t = .bad ∨ ∃ r : Nat, ks[r]? = some t ∧ vs[r]? = some (look ks vs t)
  | [], _, _ => .inl (by simp [look])
  | _ :: _, [], _ => .inl (by simp [look])
  | k :: ks, v :: vs, t => by
    simp only [look]
    cases hb : Nat.beq t k with
    | true => exact .inr ⟨0, by simp [Nat.eq_of_beq_eq_true hb], rfl⟩
    | false =>
      simp only [cond_false]
      rcases look_at (ks := ks) (vs := vs) (t := t) with h | ⟨r, h1, h2⟩
      · exact .inl h
      · exact .inr ⟨r + 1, by simpa using h1, by simpa using h2⟩

/-- The sources of one's own rows are told apart. -/
def Apart (ns : List Src) : Prop := ∀ (r s i : Nat) (p q : Src), ns[r]? = some p → ns[s]? = some q → p.1 = some i → q.1 = some i → r = s

theorem mk_rel {w0 w : World} {F : FM} {N : Nat} {ρ : Nm} {a : Act} {hp : Nat → Option Bk} (hW : WR w0 ρ hp w) (hf : ρ.f = F) (hsize : a.tmps.size = N) (hdef : a.defers = F.d)
    {ks : List Nat} {rs : List RD} {hs : List Nat} {bs : List (List Sd)} {n : Nat} {vs : List Value} {cvs : List (List Value)} {n1 n2 : List Src}
    (hfit : FitRs w0 w ρ hs rs vs n1) (hfb : FitBs w0 w ρ hs bs cvs n2) (hap : Apart (n1 ++ n2)) (hmine : ∀ (p : Src) (i : Nat), p ∈ n1 ++ n2 → p.1 = some i → ∀ g, p.2.2.ownBlock = some g → blkOf ρ hp i = some g ∧ (∀ cs, hp i ≠ some (.own cs)))
    (hks : ∀ (r t : Nat) (v : Value), ks[r]? = some t → vs[r]? = some v → a.tmps.getD t undef = v) (hbs : ∀ (r i : Nat) (cv : List Value), hs[r]? = some i → cvs[r]? = some cv → ∃ cs, hp i = some (.own cs) ∧ cs.map (Sc.con ρ) = cv)
    (hlen : hs.length = bs.length) (hlt : ∀ i ∈ hs, i < n) (hpin : F.p = none ∨ 0 ∈ hs) : ∃ ρ', Rel w0 F N ρ' (mkSt ks rs hs bs n) a w := by
  obtain ⟨p1, p2, p3⟩ := mkRs_ok (n := n) hfit
  obtain ⟨q1, q2, q3⟩ := mkBs_ok (n := n + (mkRs n rs).2.length) hfb
  have hmk : mkSt ks rs hs bs n = ⟨look ks (mkRs n rs).1, hpOf hs n (mkBs (n + (mkRs n rs).2.length) bs).1 ((mkRs n rs).2 ++ (mkBs (n + (mkRs n rs).2.length) bs).2), n + ((mkRs n rs).2 ++ (mkBs (n + (mkRs n rs).2.length) bs).2).length⟩ := rfl
  rw [hmk]
  generalize hfs : (mkRs n rs).1 = fs at *
  generalize hb1 : (mkRs n rs).2 = b1 at *
  generalize hcs : (mkBs (n + b1.length) bs).1 = css at *
  generalize hb2 : (mkBs (n + b1.length) bs).2 = b2 at *
  have hM := p1.append q1
  -- the names
  let ρ' : Nm := ⟨fun i => if i < n then ρ.b i else (((n1 ++ n2)[i - n]?).map fun p => p.2.1).getD 0, fun i => if i < n then ρ.s i else (((n1 ++ n2)[i - n]?).map fun p => p.2.2).getD undef, ρ.f⟩
  have hb' : ∀ i, i < n → ρ'.b i = ρ.b i := fun i hi => by simp only [ρ']; rw [if_pos hi]
  have hnam : Named ρ' n (n1 ++ n2) := by
    intro r p hr
    have hni : ¬ n + r < n := by omega
    have : n + r - n = r := by omega
    simp only [ρ']
    rw [if_neg hni, if_neg hni, this, hr]
    exact ⟨rfl, rfl⟩
  have e1 := p2.con ρ' rfl (fun i hi => hb' i (hlt i hi)) hnam.left
  have e2 := q2.con ρ' rfl (fun i hi => hb' i (hlt i hi)) (by have := hnam.right; rwa [← p1.len] at this)
  have hlc : hs.length = css.length := by
    have : css.length = bs.length := by
      have key : ∀ (l : List (List Sd)) (m : Nat), (mkBs m l).1.length = l.length := by
        intro l
        induction l with
        | nil => intro m; rfl
        | cons x l ih => intro m; simp only [mkBs, List.length_cons, ih]
      rw [← hcs]; exact key _ _
    omega
  let hp' := hpOf hs n css (b1 ++ b2)
  have hlo : ∀ i, i < n → hp' i = lookH hs css i := fun i hi => by
    have : Nat.blt i n = true := Nat.ble_eq_true_of_le hi
    simp only [hp', hpOf, this, cond_true]
  have hhi : ∀ i, n ≤ i → hp' i = (b1 ++ b2)[i - n]? := fun i hi => by
    have : Nat.blt i n = false := by
      cases hb : Nat.blt i n with
      | false => rfl
      | true => have := Nat.le_of_ble_eq_true hb; omega
    simp only [hp', hpOf, this, cond_false]
  have hhi' : ∀ r, hp' (n + r) = (b1 ++ b2)[r]? := fun r => by rw [hhi _ (Nat.le_add_right _ _)]; congr 1; omega
  have hscok : ∀ x, ScIn hs n (b1 ++ b2) x → x.ok hp' := by
    intro x hx
    cases x with
    | v x => exact hx
    | p i off =>
      rcases hx with hx | ⟨r, cs, rfl, h2⟩
      · obtain ⟨cs, hc⟩ := lookH_some hlc hx
        simp only [Sc.ok]
        rw [hlo i (hlt i hx), hc]; rfl
      · simp only [Sc.ok]
        rw [hhi', h2]; rfl
    | sl i =>
      obtain ⟨r, d, m, rfl, h2⟩ := hx
      simp only [Sc.ok]
      rw [hhi', h2]; rfl
    | opq => trivial
    | e _ _ _ _ => exact hx.elim
    | fn _ _ => exact hx.elim
  -- own blocks
  have hown : ∀ i, i < n → ∀ b, hp' i = some b → ∃ cs old, b = .own cs ∧ i ∈ hs ∧ cs ∈ css ∧ hp i = some (.own old) ∧ old.map (Sc.con ρ) = cs.map (Sc.con ρ') := by
    intro i hi b hb
    rw [hlo i hi] at hb
    obtain ⟨r, cs, rfl, h1, h2⟩ := lookH_own hb
    have h3 : cvs[r]? = some (cs.map (Sc.con ρ')) := by
      rw [← e2, List.getElem?_map, h2]; rfl
    obtain ⟨old, h4, h5⟩ := hbs r i _ h1 h3
    exact ⟨cs, old, rfl, List.mem_of_getElem? h1, List.mem_of_getElem? h2, h4, h5⟩
  have hnew : ∀ i, n ≤ i → ∀ b, hp' i = some b → ∃ (p : Src), (n1 ++ n2)[i - n]? = some p ∧ (b1 ++ b2)[i - n]? = some b ∧ ρ'.b i = p.2.1 ∧ ρ'.s i = p.2.2 := by
    intro i hi b hb
    rw [hhi i hi] at hb
    have hr := (List.getElem?_eq_some_iff.1 hb).1
    rw [hM.len] at hr
    have hp := List.getElem?_eq_getElem hr
    have := hnam (i - n) _ hp
    have hi' : n + (i - n) = i := by omega
    rw [hi'] at this
    exact ⟨_, hp, hb, this.1, this.2⟩
  have hblk : ∀ i g, blkOf ρ' hp' i = some g → (i < n ∧ blkOf ρ hp i = some g) ∨ (n ≤ i ∧ ∃ (p : Src) (j : Nat), (n1 ++ n2)[i - n]? = some p ∧ p.1 = some j ∧ blkOf ρ hp j = some g ∧ ∀ cs, hp j ≠ some (.own cs)) := by
    intro i g hg
    rcases Nat.lt_or_ge i n with hi | hi
    · left
      refine ⟨hi, ?_⟩
      unfold blkOf at hg
      split at hg
      · rename_i cs hb
        obtain ⟨_, old, _, _, _, h4, _⟩ := hown i hi _ hb
        rw [hb' i hi] at hg
        simp [blkOf, h4]
        exact Option.some.inj hg
      · rename_i d m hb
        obtain ⟨_, _, h, _⟩ := hown i hi _ hb
        cases h
      · cases hg
    · right
      refine ⟨hi, ?_⟩
      unfold blkOf at hg
      split at hg
      · rename_i cs hb
        obtain ⟨p, h1, h2, _⟩ := hnew i hi _ hb
        exact absurd rfl ((hM.fact _ _ p h2 h1).2.1 cs)
      · rename_i d m hb
        obtain ⟨p, h1, h2, h3, h4⟩ := hnew i hi _ hb
        rw [h4] at hg
        have hF := hM.fact _ _ p h2 h1
        cases hp1 : p.1 with
        | none => rw [hF.2.2.2.2 hp1 d m rfl] at hg; cases hg
        | some j =>
          obtain ⟨h5, h6⟩ := hmine p j (List.mem_of_getElem? h1) hp1 g hg
          exact ⟨p, j, h1, hp1, h5, h6⟩
      · cases hg
  refine ⟨ρ', ⟨⟨hW.below, hW.fone, fun i b hb => ?_, fun i b hb => ?_, fun i j g hi hj => ?_, fun g hg => ?_⟩, ⟨hsize, fun t ht => ?_, fun t => ?_, by rw [hdef, ← hf]⟩, fun i hi => ?_, hf⟩⟩
  · -- facts
    rcases Nat.lt_or_ge i n with hi | hi
    · obtain ⟨cs, old, rfl, h1, h2, h3, h4⟩ := hown i hi b hb
      obtain ⟨f1, t, f2⟩ := hW.fact i _ h3
      rw [hb' i hi]
      exact ⟨f1, t, by rw [← h4]; exact f2⟩
    · obtain ⟨p, h1, h2, h3, h4⟩ := hnew i hi b hb
      have hF := hM.fact _ _ p h2 h1
      rw [h3, h4]
      exact hF.1.ext rfl fun cs h => absurd h (hF.2.1 cs)
  · -- well-formed
    cases b with
    | own cs =>
      rcases Nat.lt_or_ge i n with hi | hi
      · obtain ⟨cs', old, h0, h1, h2, h3, h4⟩ := hown i hi _ hb
        cases h0
        exact fun x hx => hscok x ((q3 _ h2 x hx).right)
      · obtain ⟨p, h1, h2, _⟩ := hnew i hi _ hb
        exact absurd rfl ((hM.fact _ _ p h2 h1).2.1 cs)
    | _ => trivial
  · -- apart
    rcases hblk i g hi with ⟨h1, h2⟩ | ⟨h1, p, k, h2, h3, h4, h5⟩ <;> rcases hblk j g hj with ⟨g1, g2⟩ | ⟨g1, p', k', g2, g3, g4, g5⟩
    · exact hW.excl i j g h2 g2
    · have := hW.excl i k' g h2 g4
      subst this
      exfalso
      unfold blkOf at hi
      split at hi
      · rename_i cs hb
        obtain ⟨_, old, _, _, _, h6, _⟩ := hown i h1 _ hb
        exact g5 old h6
      · rename_i d m hb
        obtain ⟨_, _, h, _⟩ := hown i h1 _ hb
        cases h
      · cases hi
    · have := hW.excl j k g g2 h4
      subst this
      exfalso
      unfold blkOf at hj
      split at hj
      · rename_i cs hb
        obtain ⟨_, old, _, _, _, h6, _⟩ := hown j g1 _ hb
        exact h5 old h6
      · rename_i d m hb
        obtain ⟨_, _, h, _⟩ := hown j g1 _ hb
        cases h
      · cases hj
    · have := hW.excl k k' g h4 g4
      subst this
      have := hap _ _ k p p' h2 g2 h3 g3
      omega
  · have hg' : ρ.f.p = some g := hg
    have h0 : 0 ∈ hs := by
      rcases hpin with h | h
      · rw [hf, h] at hg'; cases hg'
      · exact h
    obtain ⟨cs, hc⟩ := lookH_some hlc h0
    rw [hb' 0 (hlt 0 h0)]
    refine ⟨(hW.pin g hg').1, ?_⟩
    show isBlk (hp' 0) = true
    rw [hlo 0 (hlt 0 h0), hc]
    rfl
  · -- slots
    rcases look_at (ks := ks) (vs := fs) (t := t) with h | ⟨r, h1, h2⟩
    · exact absurd h ht
    · have : vs[r]? = some ((look ks fs t).con ρ') := by rw [← e1, List.getElem?_map, h2]; rfl
      exact hks r t _ h1 this
  · intro y hy
    rcases look_at (ks := ks) (vs := fs) (t := t) with h | ⟨r, h1, h2⟩
    · have hy' : y ∈ (look ks fs t).scs := hy
      rw [h] at hy'
      simp [FV.scs] at hy'
    · exact hscok y ((p3 _ (List.mem_of_getElem? h2) y hy).left)
  · have : n + (b1 ++ b2).length ≤ i := hi
    show hp' i = none
    rw [hhi i (by omega)]
    exact List.getElem?_eq_none (by omega)

end Go.Proofs.Ytmmlpaehehgfnaa.Sx
