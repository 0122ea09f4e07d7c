/- What the evaluator's values and blocks stand for in a world. -/
import Derived.Test.YtmlnfoabpcccnaaGreatEvAa
import Derived.Laws.CopyRow
import Derived.Laws.Cells
import Derived.Below
set_option linter.all false
/- What the evaluator's values and blocks stand for in a world. -/
namespace Go.Ev

/-- where a block lies: block, shift, cells told, cells in all, cells of an element -/
structure Pl where
  b : Nat
  sh : Nat
  n : Nat
  B : Nat
  sz : Nat
  loose : Bool

abbrev Mp := Nat → Option Pl
abbrev Fz := Nat → Nat → Prop
def noMap : Mp := fun _ => none
def Mp.up (M : Mp) (i : Nat) (p : Pl) : Mp := fun j => if j = i then some p else M j

/-- values that are not known: even numbers are strings, odd ones integers -/
class Env where
  str : Nat → ByteArray
  int : Nat → Int
  rem : ∀ n d r, symRem n d = some r → (int n).tmod d = r ∧ d ≠ 0 ∧ n % 2 = 1
  /-- cells that are not looked into -/
  pv : Nat → PV
  form : ∀ n, (∃ x, pv n = .v x) ∨ ∃ es ex, pv n = .sl es ex

def Env.val [Env] (n : Nat) : Value :=
  match n % 2 with
  | 0 => .string (Env.str n)
  | _ => .int .i64 (Env.int n)

theorem Env.one [Env] (n : Nat) : (Env.val n).oneCell' = true := by
  unfold Env.val
  split <;> rfl

theorem Env.val_int [Env] {n : Nat} (h : n % 2 = 1) : Env.val n = .int .i64 (Env.int n) := by
  unfold Env.val
  simp only [h]

theorem Env.val_str [Env] {n : Nat} (h : Nat.beq (n % 2) 0 = true) : Env.val n = .string (Env.str n) := by
  unfold Env.val
  simp only [Nat.eq_of_beq_eq_true h]

variable [Env]

inductive VR (w : World) (F : Fz) : Mp → PV → Value → Prop where
  | v {M x} : flat x = true → VR w F M (.v x) x
  | agg {M cs} {ys : List Value} : ys.length = cs.length → (∀ (i : Nat) c, cs[i]? = some c → cellOk c = true) → (∀ (i : Nat) c y, cs[i]? = some c → ys[i]? = some y → VR w F M c y) → VR w F M (.agg cs) (.agg ys.toArray)
  | tup {M cs} {ys : List Value} : ys.length = cs.length → (∀ (i : Nat) c y, cs[i]? = some c → ys[i]? = some y → VR w F M c y) → VR w F M (.tup cs) (.tuple ys.toArray)
  | clo {M f cs} {ys : List Value} : ys.length = cs.length → (∀ (i : Nat) c y, cs[i]? = some c → ys[i]? = some y → VR w F M c y) → VR w F M (.clo f cs) (.func (.func f) #[] ys.toArray)
  | bnd {M f cs} {ys : List Value} : ys.length = cs.length → (∀ (i : Nat) c y, cs[i]? = some c → ys[i]? = some y → VR w F M c y) → VR w F M (.bnd f cs) (.func (.func f) ys.toArray #[])
  | un {M} : VR w F M .un undef
  | top {M l} : VR w F M .top (.func (.yield l) #[] #[])
  | mp {M id p} : M id = some p → VR w F M (.mp id) (.map (some p.b))
  | sym {M n} : VR w F M (.sym n) (Env.val n)
  | unk {M n y} : VR w F noMap (Env.pv n) y → VR w F M (.unk n) y
  | ptr {M id off p} : M id = some p → VR w F M (.ptr id off) (.pointer (some ⟨p.b, p.sh + off, none⟩))
  | row {M id off len cap cap' rs p} : M id = some p → p.sz = rs → len ≤ cap → off + cap * p.sz ≤ p.n → (cap' = cap ∨ (p.loose = true ∧ off + cap * p.sz = p.n ∧ cap ≤ cap' ∧ p.sh + off + cap' * p.sz ≤ p.B)) →
      VR w F M (.row id off len cap rs) (.slice (some ⟨p.b, p.sh + off, none⟩) len cap')
  | sl {M es ex b o cap sz} {f : Nat → Nat → Value} : (ex = true → cap = es.length) → es.length ≤ cap → (∀ (i : Nat) e, es[i]? = some e → e.length = sz) →
      (∀ (i j : Nat) e c, es[i]? = some e → e[j]? = some c → cellOk c = true ∧ F b (o + i * sz + j) ∧ w.cell? ⟨b, o + i * sz + j, none⟩ = some (f i j)) →
      (∀ (i j : Nat) e c, es[i]? = some e → e[j]? = some c → VR w F noMap c (f i j)) →
      VR w F M (.sl es ex) (.slice (some ⟨b, o, none⟩) es.length cap)
  | ep {M cs off b o} {f : Nat → Value} :
      (∀ (j : Nat) c, cs[j]? = some c → cellOk c = true ∧ F b (o + j) ∧ w.cell? ⟨b, o + j, none⟩ = some (f j)) →
      (∀ (j : Nat) c, cs[j]? = some c → VR w F noMap c (f j)) →
      VR w F M (.ep cs off) (.pointer (some ⟨b, o + off, none⟩))

theorem VR.mono {w w' : World} {F F' : Fz} {M : Mp} {p y} (h : VR w F M p y) : ∀ {M' : Mp}, (∀ b o, F b o → F' b o) → (∀ b o, F b o → w'.cell? ⟨b, o, none⟩ = w.cell? ⟨b, o, none⟩) →
    (∀ i q, M i = some q → M' i = some q) → VR w' F' M' p y := by
  induction h with
  | v hx => exact fun _ _ _ => .v hx
  | agg hl hc _ ih => exact fun hF hw hM => .agg hl hc fun i c y h1 h2 => ih i c y h1 h2 hF hw hM
  | tup hl _ ih => exact fun hF hw hM => .tup hl fun i c y h1 h2 => ih i c y h1 h2 hF hw hM
  | clo hl _ ih => exact fun hF hw hM => .clo hl fun i c y h1 h2 => ih i c y h1 h2 hF hw hM
  | bnd hl _ ih => exact fun hF hw hM => .bnd hl fun i c y h1 h2 => ih i c y h1 h2 hF hw hM
  | un => exact fun _ _ _ => .un
  | top => exact fun _ _ _ => .top
  | mp h => exact fun _ _ hM => .mp (hM _ _ h)
  | sym => exact fun _ _ _ => .sym
  | unk _ ih => exact fun hF hw _ => .unk (ih hF hw fun _ _ h => h)
  | ptr h => exact fun _ _ hM => .ptr (hM _ _ h)
  | row h h0 h1 h2 h3 => exact fun _ _ hM => .row (hM _ _ h) h0 h1 h2 h3
  | sl h1 h2 h3 h4 _ ih => exact fun hF hw _ => .sl h1 h2 h3 (fun i j e c he hc => ⟨(h4 i j e c he hc).1, hF _ _ (h4 i j e c he hc).2.1, (hw _ _ (h4 i j e c he hc).2.1).trans (h4 i j e c he hc).2.2⟩) fun i j e c he hc => ih i j e c he hc hF hw fun _ _ h => h
  | ep h4 _ ih => exact fun hF hw _ => .ep (fun j c hc => ⟨(h4 j c hc).1, hF _ _ (h4 j c hc).2.1, (hw _ _ (h4 j c hc).2.1).trans (h4 j c hc).2.2⟩) fun j c hc => ih j c hc hF hw fun _ _ h => h

/-- a value without rows and pointers stands for the same under every map -/
theorem VR.data {w : World} {F : Fz} : ∀ (n : Nat) {M : Mp} {p y}, isData n p = true → VR w F M p y → ∀ {M' : Mp}, VR w F M' p y
  | 0, _, _, _, h, _, _ => by simp [isData] at h
  | n + 1, M, p, y, h, hv, M' => by
    cases hv with
    | v hx => exact .v hx
    | un => exact .un
    | sym => exact .sym
    | unk h => exact .unk h
    | agg hl hc hr =>
      simp only [isData, List.all_eq_true] at h
      exact .agg hl hc fun i c y h1 h2 => VR.data n (h c (List.mem_of_getElem? h1)) (hr i c y h1 h2)
    | tup hl hr =>
      simp only [isData, List.all_eq_true] at h
      exact .tup hl fun i c y h1 h2 => VR.data n (h c (List.mem_of_getElem? h1)) (hr i c y h1 h2)
    | sl h1 h2 h3 h4 h5 => exact .sl h1 h2 h3 h4 h5
    | clo => simp [isData] at h
    | bnd => simp [isData] at h
    | top => simp [isData] at h
    | mp => simp [isData] at h
    | ptr => simp [isData] at h
    | row => simp [isData] at h
    | ep => simp [isData] at h

theorem Env.cases_pv {w F n y} (h : VR w F noMap (Env.pv n) y) : flat y = true ∨ ∃ b o len cap, y = .slice (some ⟨b, o, none⟩) len cap := by
  rcases Env.form n with ⟨x, e⟩ | ⟨es, ex, e⟩
  · rw [e] at h
    cases h with
    | v hx => exact .inl hx
  · rw [e] at h
    cases h with
    | sl h1 h2 h3 h4 h5 => exact .inr ⟨_, _, _, _, rfl⟩

theorem VR.one {w F M p y} (h : VR w F M p y) (hc : cellOk p = true) : y.oneCell' = true := by
  cases h with
  | v hx => cases y <;> simp_all [Value.oneCell', cellOk, flat]
  | agg => simp [cellOk] at hc
  | tup => simp [cellOk] at hc
  | un => simp [cellOk] at hc
  | top => simp [cellOk] at hc
  | sym => exact Env.one _
  | unk h =>
    rcases Env.cases_pv h with g | ⟨b, o, l, c, rfl⟩
    · cases y <;> simp_all [Value.oneCell', flat]
    · rfl
  | _ => rfl

theorem VR.cells_one {w F M p y} (h : VR w F M p y) (hc : cellOk p = true) : y.cells = #[y] := by
  have := h.one hc
  cases y <;> simp_all [Value.oneCell', Value.cells]

/-- cells stand for cells -/
def VL (w : World) (F : Fz) (M : Mp) (cs : List PV) (ys : List Value) : Prop :=
  ys.length = cs.length ∧ ∀ (i : Nat) c y, cs[i]? = some c → ys[i]? = some y → cellOk c = true ∧ VR w F M c y

theorem VL.nil {w F M} : VL w F M [] [] := ⟨rfl, fun i c y h => by simp at h⟩
theorem VL.cons {w F M c y cs ys} (hc : cellOk c = true) (h : VR w F M c y) (hs : VL w F M cs ys) : VL w F M (c :: cs) (y :: ys) :=
  ⟨by simp [hs.1], fun i a b h1 h2 => by
    cases i with
    | zero => simp at h1 h2; subst h1; subst h2; exact ⟨hc, h⟩
    | succ i => simp at h1 h2; exact hs.2 i a b h1 h2⟩
theorem VL.head {w F M c y cs ys} (h : VL w F M (c :: cs) (y :: ys)) : cellOk c = true ∧ VR w F M c y := h.2 0 c y rfl rfl
theorem VL.tail {w F M c y cs ys} (h : VL w F M (c :: cs) (y :: ys)) : VL w F M cs ys :=
  ⟨by simpa using h.1, fun i a b h1 h2 => h.2 (i + 1) a b (by simpa using h1) (by simpa using h2)⟩
theorem VL.append {w F M cs ys ds zs} (h : VL w F M cs ys) (k : VL w F M ds zs) : VL w F M (cs ++ ds) (ys ++ zs) := by
  refine ⟨by simp [h.1, k.1], fun i c y h1 h2 => ?_⟩
  rw [List.getElem?_append] at h1 h2
  by_cases hi : i < cs.length
  · rw [if_pos hi] at h1; rw [if_pos (by rw [h.1]; exact hi)] at h2; exact h.2 i c y h1 h2
  · rw [if_neg hi] at h1; rw [if_neg (by rw [h.1]; exact hi), h.1] at h2; exact k.2 _ c y h1 h2
theorem VL.mono {w w' : World} {F F' : Fz} {M M' : Mp} {cs ys} (h : VL w F M cs ys) (hF : ∀ b o, F b o → F' b o) (hc : ∀ b o, F b o → w'.cell? ⟨b, o, none⟩ = w.cell? ⟨b, o, none⟩)
    (hM : ∀ i q, M i = some q → M' i = some q) : VL w' F' M' cs ys :=
  ⟨h.1, fun i c y h1 h2 => ⟨(h.2 i c y h1 h2).1, (h.2 i c y h1 h2).2.mono hF hc hM⟩⟩
theorem VL.agg {w F M cs ys} (h : VL w F M cs ys) : VR w F M (.agg cs) (.agg ys.toArray) :=
  .agg h.1 (fun i c hi => by
    have : i < ys.length := by rw [h.1]; exact (List.getElem?_eq_some_iff.1 hi).1
    exact (h.2 i c ys[i] hi (List.getElem?_eq_getElem this)).1) fun i c y h1 h2 => (h.2 i c y h1 h2).2
theorem VL.drop {w F M cs ys} (n : Nat) (h : VL w F M cs ys) : VL w F M (cs.drop n) (ys.drop n) :=
  ⟨by simp [h.1], fun i c y h1 h2 => h.2 (n + i) c y (by simpa using h1) (by simpa using h2)⟩
theorem VL.take {w F M cs ys} (n : Nat) (h : VL w F M cs ys) : VL w F M (cs.take n) (ys.take n) :=
  ⟨by simp [h.1], fun i c y h1 h2 => by
    rw [List.getElem?_take] at h1 h2
    split at h1
    · rename_i hi; rw [if_pos hi] at h2; exact h.2 i c y h1 h2
    · cases h1⟩

/-- the cells of a value -/
theorem VR.cells {w F M p y cs} (h : VR w F M p y) (hc : pvCells p = some cs) : VL w F M cs y.cells.toList := by
  by_cases hk : cellOk p = true
  · have : cs = [p] := by cases p <;> simp_all [pvCells, cellOk]
    subst this
    rw [h.cells_one hk]
    exact VL.cons hk h VL.nil
  · cases h with
    | agg hl hc' hr =>
      simp [pvCells] at hc; subst hc
      exact ⟨hl, fun i c y h1 h2 => ⟨hc' i c h1, hr i c y h1 h2⟩⟩
    | v hx => simp [cellOk] at hk
    | tup => simp [pvCells, cellOk] at hc
    | un => simp [pvCells, cellOk] at hc
    | top => simp [pvCells, cellOk] at hc
    | bnd => simp [cellOk] at hk
    | mp => simp [cellOk] at hk
    | sym => simp [cellOk] at hk
    | unk => simp [cellOk] at hk
    | clo => simp [cellOk] at hk
    | ptr => simp [cellOk] at hk
    | row => simp [cellOk] at hk
    | sl => simp [cellOk] at hk
    | ep => simp [cellOk] at hk

theorem takeN_spec {α : Type} : ∀ {l : List α} {n r}, takeN l n = some r → r = l.take n ∧ n ≤ l.length
  | l, 0, r, h => by simp [takeN] at h; subst h; simp
  | [], n + 1, r, h => by simp [takeN] at h
  | x :: l, n + 1, r, h => by
    simp only [takeN] at h
    cases hk : takeN l n with
    | none => simp [hk] at h
    | some q =>
      simp [hk] at h; subst h
      obtain ⟨h1, h2⟩ := takeN_spec hk
      exact ⟨by simp [h1], by simp; omega⟩
theorem cut_spec {α : Type} {l : List α} {o n r} (h : cut l o n = some r) : r = (l.drop o).take n ∧ n ≤ l.length - o := by
  obtain ⟨h1, h2⟩ := takeN_spec h
  exact ⟨h1, by simpa using h2⟩
theorem putAt_spec {α : Type} : ∀ {l : List α} {n ys r}, putAt l n ys = some r → n + ys.length ≤ l.length ∧ r = l.take n ++ ys ++ l.drop (n + ys.length)
  | [], n, ys, r, h => by
    cases n <;> cases ys <;> simp [putAt] at h
    subst h; simp
  | x :: l, 0, [], r, h => by simp [putAt] at h; subst h; simp
  | x :: l, 0, y :: ys, r, h => by
    simp only [putAt] at h
    cases hk : putAt l 0 ys with
    | none => simp [hk] at h
    | some q =>
      simp [hk] at h; subst h
      obtain ⟨h1, h2⟩ := putAt_spec hk
      refine ⟨by simp at h1 ⊢; omega, ?_⟩
      simp [h2]
  | x :: l, n + 1, ys, r, h => by
    simp only [putAt] at h
    cases hk : putAt l n ys with
    | none => simp [hk] at h
    | some q =>
      simp [hk] at h; subst h
      obtain ⟨h1, h2⟩ := putAt_spec hk
      refine ⟨by simp at h1 ⊢; omega, ?_⟩
      simp [h2, Nat.add_right_comm n 1]
end Go.Ev

/- The evaluator's heap in a world: new blocks, stores, loads. -/
namespace Go.Ev
variable [Env]
open RowKit

theorem Al.get_cons {α : Type} (k : Nat) (x : α) (r : Al α) (n : Nat) : Al.get ((k, x) :: r) n = if k = n then some x else Al.get r n := by
  unfold Al.get
  by_cases h : k = n
  · subst h; simp
  · have : Nat.beq k n = false := by rw [Bool.eq_false_iff]; intro e; exact h (Nat.eq_of_beq_eq_true e)
    rw [this, if_neg h]
    cases r <;> rfl
theorem Al.get_set {α : Type} (l : Al α) (i j : Nat) (y : α) : Al.get (Al.set l i y) j = if j = i then (Al.get l i).map fun _ => y else Al.get l j := by
  induction l with
  | nil => by_cases h : j = i <;> simp [Al.set, Al.get, h]
  | cons p r ih =>
    obtain ⟨k, x⟩ := p
    unfold Al.set
    by_cases hk : k = i
    · subst hk
      simp only [Nat.beq_refl, Al.get_cons]
      by_cases hj : j = k
      · subst hj; simp
      · rw [if_neg (Ne.symm hj), if_neg hj, if_neg (Ne.symm hj)]
    · have : Nat.beq k i = false := by rw [Bool.eq_false_iff]; intro e; exact hk (Nat.eq_of_beq_eq_true e)
      simp only [this, Al.get_cons, ih]
      by_cases hj : j = i
      · subst hj; rw [if_neg hk, if_pos rfl, if_pos rfl, if_neg hk]
      · by_cases hjk : k = j
        · rw [if_pos hjk, if_neg hj, if_pos hjk]
        · rw [if_neg hjk, if_neg hj, if_neg hj, if_neg hjk]
theorem Al.get_del {α : Type} (l : Al α) (i j : Nat) : Al.get (Al.del l i) j = if j = i then none else Al.get l j := by
  induction l with
  | nil => by_cases h : j = i <;> simp [Al.del, Al.get, h]
  | cons p r ih =>
    obtain ⟨k, x⟩ := p
    unfold Al.del
    by_cases hk : k = i
    · subst hk
      simp only [Nat.beq_refl, ih, Al.get_cons]
      by_cases hj : j = k
      · simp [hj]
      · rw [if_neg hj, if_neg hj, if_neg (Ne.symm hj)]
    · have : Nat.beq k i = false := by rw [Bool.eq_false_iff]; intro e; exact hk (Nat.eq_of_beq_eq_true e)
      simp only [this, Al.get_cons, ih]
      by_cases hj : j = i
      · subst hj; rw [if_neg hk, if_pos rfl, if_pos rfl]
      · by_cases hjk : k = j
        · rw [if_pos hjk, if_neg hj, if_pos hjk]
        · rw [if_neg hjk, if_neg hj, if_neg hj, if_neg hjk]
theorem Al.get_keep {α : Type} (t : Al α) : ∀ (ks : List Nat) (n : Nat) (x : α), Al.get (Al.keep t ks) n = some x → Al.get t n = some x
  | [], n, x, h => by simp [Al.keep, Al.get] at h
  | k :: r, n, x, h => by
    unfold Al.keep at h
    cases hk : Al.get t k with
    | none => rw [hk] at h; exact Al.get_keep t r n x h
    | some y =>
      rw [hk] at h
      simp only [Al.get_cons] at h
      by_cases hkn : k = n
      · subst hkn; rw [if_pos rfl] at h; rw [hk]; exact h
      · rw [if_neg hkn] at h; exact Al.get_keep t r n x h

theorem cell_of {w : World} {b o : Nat} {c : Array Value} {e : TypeId} {f : Nat × Nat} (h : w.heap[b]? = some (.cells c e f)) : w.cell? ⟨b, o, none⟩ = c[o]? := by
  simp [World.cell?, h]

/-- a block as it lies in the world -/
structure BR (w : World) (F : Fz) (M : Mp) (p : Pl) (b : Blk) : Prop where
  n : p.n = b.cells.length
  sz : p.sz = b.sz
  loose : p.loose = b.loose
  blk : ∃ c e, w.heap[p.b]? = some (.cells c e (0, 0)) ∧ c.size = p.B ∧ p.sh + p.n ≤ p.B ∧
    ∀ (o : Nat) x, b.cells[o]? = some x → cellOk x = true ∧ ∃ y, c[p.sh + o]? = some y ∧ VR w F M x y
  nf : ∀ o, p.sh + b.frz ≤ o → ¬ F p.b o
  ty : (b.loose = false → p.sh = 0) ∧ ∃ c, w.heap[p.b]? = some (.cells c b.ty (0, 0))

/-- a map, or an iterator over one, as it lies in the world -/
inductive MR (w : World) (F : Fz) (M : Mp) (p : Pl) : MO → Prop where
  | map {es} {ms : Array MapEntry} {clock : Nat} : w.heap[p.b]? = some (.map ms clock) → ms.size = es.length →
      (∀ (i : Nat) k v, es[i]? = some (k, v) → ∃ e, ms[i]? = some e ∧ VR w F M k e.key ∧ VR w F M v e.val) → MR w F M p (.map es)
  | iter {id since last q} : M id = some q → p.sh = 0 → w.heap[p.b]? = some (.mapIter (some q.b) since #[] last) → MR w F M p (.iter id)

def isMapObj (w : World) (b : Nat) : Prop := (∃ ms c, w.heap[b]? = some (.map ms c)) ∨ ∃ m s l, w.heap[b]? = some (.mapIter m s #[] l)

theorem MR.mono {w w' : World} {F F' : Fz} {M M' : Mp} {p : Pl} {m : MO} (h : MR w F M p m) (hb : isMapObj w p.b → w'.heap[p.b]? = w.heap[p.b]?) (hF : ∀ b o, F b o → F' b o)
    (hc : ∀ b o, F b o → w'.cell? ⟨b, o, none⟩ = w.cell? ⟨b, o, none⟩) (hM : ∀ i q, M i = some q → M' i = some q) : MR w' F' M' p m := by
  cases h with
  | map h1 h2 h3 =>
    refine .map ((hb (.inl ⟨_, _, h1⟩)).trans h1) h2 fun i k v hi => ?_
    obtain ⟨e, g1, g2, g3⟩ := h3 i k v hi
    exact ⟨e, g1, g2.mono hF hc hM, g3.mono hF hc hM⟩
  | iter h1 h2 h3 => exact .iter (hM _ _ h1) h2 ((hb (.inr ⟨_, _, _, h3⟩)).trans h3)

/-- the maps as they lie in the world -/
structure HM (m : Al MO) (n : Nat) (w : World) (F : Fz) (M : Mp) : Prop where
  mp : ∀ id x p, Al.get m id = some x → M id = some p → MR w F M p x
  inj : ∀ i j x y p q, Al.get m i = some x → Al.get m j = some y → M i = some p → M j = some q → p.b = q.b → i = j
  fresh : ∀ id x, Al.get m id = some x → id < n

theorem HM.mono {m : Al MO} {n n' : Nat} {w w' : World} {F F' : Fz} {M M' : Mp} (h : HM m n w F M) (hn : n ≤ n') (hb : ∀ b, isMapObj w b → w'.heap[b]? = w.heap[b]?) (hF : ∀ b o, F b o → F' b o)
    (hc : ∀ b o, F b o → w'.cell? ⟨b, o, none⟩ = w.cell? ⟨b, o, none⟩) (hM : ∀ i q, M i = some q → M' i = some q) (hM' : ∀ i, i < n → ∀ q, M' i = some q → M i = some q) : HM m n' w' F' M' where
  mp := fun id x p hx hp => (h.mp id x p hx (hM' id (h.fresh id x hx) p hp)).mono (hb _) hF hc hM
  inj := fun i j x y p q hx hy hp hq e => h.inj i j x y p q hx hy (hM' i (h.fresh i x hx) p hp) (hM' j (h.fresh j y hy) q hq) e
  fresh := fun id x hx => Nat.lt_of_lt_of_le (h.fresh id x hx) hn
theorem HM.nil {n : Nat} {w : World} {F : Fz} {M : Mp} : HM [] n w F M where
  mp := fun _ _ _ h => nomatch h
  inj := fun _ _ _ _ _ _ h => nomatch h
  fresh := fun _ _ h => nomatch h

theorem notMap {w : World} {b : Nat} {c e s} (h : w.heap[b]? = some (.cells c e s)) : ¬ isMapObj w b := by
  rintro (⟨_, _, g⟩ | ⟨_, _, _, g⟩) <;> · rw [h] at g; cases g

theorem isMapObj.lt {w : World} {b : Nat} (h : isMapObj w b) : b < w.heap.size := by
  rcases h with ⟨_, _, g⟩ | ⟨_, _, _, g⟩ <;> exact (Array.getElem?_eq_some_iff.1 g).1

/-- the heap as it lies in the world -/
structure HS (h : Hp) (w : World) (F : Fz) (M : Mp) : Prop where
  br : ∀ id b p, h.get id = some b → M id = some p → BR w F M p b
  inj : ∀ i j bi bj p q, h.get i = some bi → h.get j = some bj → M i = some p → M j = some q → p.b = q.b → i = j
  lt : ∀ id p, M id = some p → id < h.next ∧ p.b < w.heap.size
  fresh : ∀ id b, h.get id = some b → id < h.next
  fw : ∀ b o, F b o → b < w.heap.size
  ms : HM h.maps h.next w F M

/-- what a stretch of the run leaves alone -/
structure Ext (w w' : World) (F F' : Fz) (M M' : Mp) : Prop where
  os : w'.os = w.os
  tape : w'.tape = w.tape
  output : w'.output = w.output
  size : w.heap.size ≤ w'.heap.size
  keep : ∀ b, b < w.heap.size → (∀ i p, M i = some p → p.b ≠ b) → w'.heap[b]? = w.heap[b]?
  cell : ∀ b o, F b o → w'.cell? ⟨b, o, none⟩ = w.cell? ⟨b, o, none⟩
  mM : ∀ i p, M i = some p → M' i = some p
  mF : ∀ b o, F b o → F' b o
  newM : ∀ i p, M' i = some p → M i = some p ∨ w.heap.size ≤ p.b ∨ ∃ j q, M j = some q ∧ q.b = p.b
  newF : ∀ b o, F' b o → F b o ∨ w.heap.size ≤ b ∨ ∃ j q, M j = some q ∧ q.b = b

theorem Ext.refl (w : World) (F : Fz) (M : Mp) : Ext w w F F M M :=
  ⟨rfl, rfl, rfl, Nat.le_refl _, fun _ _ _ => rfl, fun _ _ _ => rfl, fun _ _ h => h, fun _ _ h => h, fun _ _ h => .inl h, fun _ _ h => .inl h⟩

theorem Ext.trans {a b c : World} {F F' F'' : Fz} {M M' M'' : Mp} (h : Ext a b F F' M M') (k : Ext b c F' F'' M' M'') : Ext a c F F'' M M'' where
  os := k.os.trans h.os
  tape := k.tape.trans h.tape
  output := k.output.trans h.output
  size := Nat.le_trans h.size k.size
  keep := fun x hx hn => by
    rw [k.keep x (Nat.lt_of_lt_of_le hx h.size) ?_, h.keep x hx hn]
    intro i p hp e
    rcases h.newM i p hp with h1 | h1 | ⟨j, q, h1, h2⟩
    · exact hn i p h1 e
    · omega
    · exact hn j q h1 (h2.trans e)
  cell := fun x o hF => (k.cell x o (h.mF x o hF)).trans (h.cell x o hF)
  mM := fun i p hp => k.mM i p (h.mM i p hp)
  mF := fun x o hF => k.mF x o (h.mF x o hF)
  newM := fun i p hp => by
    rcases k.newM i p hp with h1 | h1 | ⟨j, q, h1, h2⟩
    · exact h.newM i p h1
    · exact .inr (.inl (Nat.le_trans h.size h1))
    · rcases h.newM j q h1 with h3 | h3 | ⟨j', q', h3, h4⟩
      · exact .inr (.inr ⟨j, q, h3, h2⟩)
      · exact .inr (.inl (h2 ▸ h3))
      · exact .inr (.inr ⟨j', q', h3, h4.trans h2⟩)
  newF := fun x o hF => by
    rcases k.newF x o hF with h1 | h1 | ⟨j, q, h1, h2⟩
    · exact h.newF x o h1
    · exact .inr (.inl (Nat.le_trans h.size h1))
    · rcases h.newM j q h1 with h3 | h3 | ⟨j', q', h3, h4⟩
      · exact .inr (.inr ⟨j, q, h3, h2⟩)
      · exact .inr (.inl (h2 ▸ h3))
      · exact .inr (.inr ⟨j', q', h3, h4.trans h2⟩)

theorem VR.ext {w w' : World} {F F' : Fz} {M M' : Mp} {p y} (h : VR w F M p y) (k : Ext w w' F F' M M') : VR w' F' M' p y := h.mono k.mF k.cell k.mM
theorem VL.ext {w w' : World} {F F' : Fz} {M M' : Mp} {p y} (h : VL w F M p y) (k : Ext w w' F F' M M') : VL w' F' M' p y := h.mono k.mF k.cell k.mM

theorem Mp.up_self (M : Mp) (i : Nat) (p : Pl) : M.up i p i = some p := by simp [Mp.up]
theorem Mp.up_ne (M : Mp) {i j : Nat} (p : Pl) (h : j ≠ i) : M.up i p j = M j := by simp [Mp.up, h]

theorem Hp.get_new (h : Hp) (b : Blk) (i : Nat) : (h.new b).get i = if h.next = i then some b else h.get i := by
  unfold Hp.new Hp.get; exact Al.get_cons _ _ _ _
theorem Hp.get_put (h : Hp) (b : Blk) (i j : Nat) : (h.put i b).get j = if j = i then (h.get i).map fun _ => b else h.get j := by
  unfold Hp.put Hp.get; exact Al.get_set _ _ _ _
theorem Hp.get_kill (h : Hp) (i j : Nat) : (h.kill i).get j = if j = i then none else h.get j := by
  unfold Hp.kill Hp.get; exact Al.get_del _ _ _

theorem alloc_size (w : World) (o : Obj) : (w.alloc o).heap.size = w.heap.size + 1 := by
  show (w.heap.push o).size = _
  simp

/-- a world with one block more -/
theorem Ext.alloc (w : World) (F : Fz) (M : Mp) (o : Obj) (id : Nat) (p : Pl) (hid : M id = none) (hp : p.b = w.heap.size) (hF : ∀ b o, F b o → b < w.heap.size) :
    Ext w (w.alloc o) F F M (M.up id p) where
  os := rfl
  tape := rfl
  output := rfl
  size := by rw [alloc_size]; omega
  keep := fun b hb _ => Below.heap_alloc w o b hb
  cell := fun b off h => World.cell?_of_block (a := ⟨b, off, none⟩) (Below.heap_alloc w o b (hF b off h))
  mM := fun i q h => by
    have : i ≠ id := fun e => by subst e; rw [hid] at h; cases h
    rw [Mp.up_ne _ _ this]; exact h
  mF := fun _ _ h => h
  newM := fun i q h => by
    by_cases e : i = id
    · subst e; rw [Mp.up_self] at h; cases h; exact .inr (.inl (by omega))
    · rw [Mp.up_ne _ _ e] at h; exact .inl h
  newF := fun _ _ h => .inl h

theorem HS.next_free {h : Hp} {w F M} (hs : HS h w F M) : M h.next = none := by
  cases hm : M h.next with
  | none => rfl
  | some p => exact absurd (hs.lt _ _ hm).1 (Nat.lt_irrefl _)

/-- an old block in a later world whose cells it hasn't lost -/
theorem BR.mono {w w' : World} {F F' : Fz} {M M' : Mp} {p b} (h : BR w F M p b) (hb : w'.heap[p.b]? = w.heap[p.b]?) (hF : ∀ b o, F b o → F' b o)
    (hc : ∀ b o, F b o → w'.cell? ⟨b, o, none⟩ = w.cell? ⟨b, o, none⟩) (hM : ∀ i q, M i = some q → M' i = some q) (hnf : ∀ o, F' p.b o → F p.b o) : BR w' F' M' p b where
  n := h.n
  sz := h.sz
  loose := h.loose
  blk := by
    obtain ⟨c, e, h1, h2, h3, h4⟩ := h.blk
    refine ⟨c, e, hb.trans h1, h2, h3, fun o x hx => ?_⟩
    obtain ⟨h5, y, h6, h7⟩ := h4 o x hx
    exact ⟨h5, y, h6, h7.mono hF hc hM⟩
  nf := fun o ho hF' => h.nf o ho (hnf o hF')
  ty := by
    obtain ⟨c, h1⟩ := h.ty.2
    exact ⟨h.ty.1, c, hb.trans h1⟩

/-- a new block of the run's own -/
theorem HS.new {h : Hp} {w F M} (hs : HS h w F M) (cells : List PV) (ys : List Value) (rest : List Value) (e : TypeId) (sz : Nat) (loose : Bool) (frz : Nat) (hv : VL w F M cells ys) :
    HS (h.new ⟨cells, sz, loose, frz, e⟩) (w.alloc (.cells (ys ++ rest).toArray e (0, 0))) F (M.up h.next ⟨w.heap.size, 0, cells.length, (ys ++ rest).length, sz, loose⟩) ∧
    Ext w (w.alloc (.cells (ys ++ rest).toArray e (0, 0))) F F M (M.up h.next ⟨w.heap.size, 0, cells.length, (ys ++ rest).length, sz, loose⟩) := by
  have hx := Ext.alloc w F M (.cells (ys ++ rest).toArray e (0, 0)) h.next ⟨w.heap.size, 0, cells.length, (ys ++ rest).length, sz, loose⟩ hs.next_free rfl hs.fw
  refine ⟨⟨?_, ?_, ?_, ?_, ?_, hs.ms.mono (Nat.le_succ _) (fun b hb => Below.heap_alloc w _ b hb.lt) hx.mF hx.cell hx.mM fun i hi q hq => by
    rwa [Mp.up_ne _ _ (Nat.ne_of_lt hi)] at hq⟩, hx⟩
  · intro id b p hg hm
    rw [Hp.get_new] at hg
    by_cases hid : h.next = id
    · subst hid
      rw [if_pos rfl] at hg; cases hg
      rw [Mp.up_self] at hm; cases hm
      refine ⟨rfl, rfl, rfl, ⟨(ys ++ rest).toArray, e, ?_, by simp, ?_, ?_⟩, ?_, fun _ => rfl, (ys ++ rest).toArray, by show (w.heap.push _)[w.heap.size]? = _; simp⟩
      · show (w.heap.push _)[w.heap.size]? = _
        simp
      · simp; have := hv.1; omega
      · intro o x hx'
        have ho : o < ys.length := by rw [hv.1]; exact (List.getElem?_eq_some_iff.1 hx').1
        have hy : ys[o]? = some ys[o] := List.getElem?_eq_getElem ho
        refine ⟨(hv.2 o x _ hx' hy).1, ys[o], ?_, ((hv.2 o x _ hx' hy).2).ext hx⟩
        simp [List.getElem?_append, ho]
      · intro o _ hF; exact absurd (hs.fw _ _ hF) (Nat.lt_irrefl _)
    · rw [if_neg hid] at hg
      rw [Mp.up_ne _ _ (Ne.symm hid)] at hm
      exact (hs.br id b p hg hm).mono (Below.heap_alloc w _ p.b (hs.lt _ _ hm).2) hx.mF hx.cell hx.mM fun _ h => h
  · intro i j bi bj p q hi hj hp hq e'
    rw [Hp.get_new] at hi hj
    by_cases h1 : h.next = i
    · by_cases h2 : h.next = j
      · exact h1.symm.trans h2
      · subst h1; rw [Mp.up_self] at hp; cases hp
        rw [Mp.up_ne _ _ (Ne.symm h2)] at hq
        have := (hs.lt _ _ hq).2
        simp at e'; omega
    · rw [Mp.up_ne _ _ (Ne.symm h1)] at hp
      by_cases h2 : h.next = j
      · subst h2; rw [Mp.up_self] at hq; cases hq
        have := (hs.lt _ _ hp).2
        simp at e'; omega
      · rw [Mp.up_ne _ _ (Ne.symm h2)] at hq
        rw [if_neg h1] at hi; rw [if_neg h2] at hj
        exact hs.inj i j bi bj p q hi hj hp hq e'
  · intro id p hm
    show id < h.next + 1 ∧ _
    by_cases e' : id = h.next
    · subst e'; rw [Mp.up_self] at hm; cases hm
      exact ⟨by omega, by rw [alloc_size]; show w.heap.size < _; omega⟩
    · rw [Mp.up_ne _ _ e'] at hm
      have := hs.lt _ _ hm
      exact ⟨by omega, by rw [alloc_size]; omega⟩
  · intro id b hg
    show id < h.next + 1
    rw [Hp.get_new] at hg
    by_cases e' : h.next = id
    · omega
    · rw [if_neg e'] at hg; have := hs.fresh _ _ hg; omega
  · intro b o hF
    have := hs.fw _ _ hF
    rw [alloc_size]; omega

/-- cells of a block take other values -/
theorem HS.set {h : Hp} {w F M} (hs : HS h w F M) {id : Nat} {b : Blk} {p : Pl} (hg : h.get id = some b) (hm : M id = some p) {off : Nat} {xs cs : List PV} {ys : List Value}
    (hp : putAt b.cells off xs = some cs) (hfr : b.frz ≤ off) (hv : VL w F M xs ys) :
    ∃ c e, w.heap[p.b]? = some (.cells c e (0, 0)) ∧ p.sh + off + ys.length ≤ c.size ∧
      let c' : Array Value := (c.toList.take (p.sh + off) ++ ys ++ c.toList.drop (p.sh + off + ys.length)).toArray
      HS (h.put id ⟨cs, b.sz, b.loose, b.frz, b.ty⟩) (w.setRow p.b c') F M ∧ Ext w (w.setRow p.b c') F F M M := by
  have br := hs.br id b p hg hm
  obtain ⟨c, e, h1, h2, h3, h4⟩ := br.blk
  obtain ⟨hlen, hcs⟩ := putAt_spec hp
  have hl : p.sh + off + ys.length ≤ c.size := by
    have := br.n; rw [hv.1]; omega
  refine ⟨c, e, h1, hl, ?_⟩
  intro c'
  have hc's : c'.size = c.size := by
    simp only [c', List.size_toArray, List.length_append, List.length_take, List.length_drop, Array.length_toList]; omega
  have hrow : (w.setRow p.b c').heap[p.b]? = some (.cells c' e (0, 0)) := setRow_heap w p.b c c' e (0, 0) h1
  have hc'in : ∀ k, k < p.sh + off → c'[k]? = c[k]? := by
    intro k hk
    have hk' : k < c.size := by omega
    simp only [c', List.getElem?_toArray]
    rw [List.append_assoc, List.getElem?_append_left (by simp; omega), List.getElem?_take, if_pos hk]
    simp
  have hc'out : ∀ k, p.sh + off + ys.length ≤ k → c'[k]? = c[k]? := by
    intro k hk
    simp only [c', List.getElem?_toArray]
    rw [List.getElem?_append_right (by simp; omega)]
    simp only [List.length_append, List.length_take, Array.length_toList, List.getElem?_drop]
    rw [show p.sh + off + ys.length + (k - (min (p.sh + off) c.size + ys.length)) = k by omega]
    simp
  have hc'mid : ∀ k, k < ys.length → c'[p.sh + off + k]? = ys[k]? := by
    intro k hk
    simp only [c', List.getElem?_toArray]
    rw [List.append_assoc, List.getElem?_append_right (by simp; omega)]
    simp only [List.length_take, Array.length_toList]
    rw [show p.sh + off + k - min (p.sh + off) c.size = k by omega]
    rw [List.getElem?_append_left hk]
  have hcell : ∀ b' o, F b' o → (w.setRow p.b c').cell? ⟨b', o, none⟩ = w.cell? ⟨b', o, none⟩ := by
    intro b' o hF
    by_cases hb : b' = p.b
    · subst hb
      rw [cell_of hrow, cell_of h1]
      by_cases ho : o < p.sh + off
      · exact hc'in o ho
      · exact absurd hF (br.nf o (by omega))
    · exact World.cell?_of_block (a := ⟨b', o, none⟩) (setRow_other w p.b b' c' hb)
  have hx : Ext w (w.setRow p.b c') F F M M :=
    ⟨rfl, rfl, rfl, by simp, fun k _ hn => setRow_other w p.b k c' (fun e' => hn id p hm e'.symm), hcell, fun _ _ h => h, fun _ _ h => h, fun _ _ h => .inl h, fun _ _ h => .inl h⟩
  refine ⟨⟨?_, ?_, ?_, ?_, ?_, hs.ms.mono (Nat.le_refl _) (fun b' hb => setRow_other w p.b b' c' fun e' => notMap h1 (e' ▸ hb)) hx.mF hx.cell hx.mM fun _ _ _ h => h⟩, hx⟩
  · intro i bi q hgi hmi
    rw [Hp.get_put] at hgi
    by_cases hi : i = id
    · subst hi
      rw [if_pos rfl, hg] at hgi; cases hgi
      rw [hm] at hmi; cases hmi
      have hcl : cs.length = b.cells.length := by rw [hcs]; simp; omega
      refine ⟨by rw [br.n]; exact hcl.symm, br.sz, br.loose, ⟨c', e, hrow, by rw [hc's]; exact h2, h3, ?_⟩, br.nf, br.ty.1, c', by rw [hrow]; obtain ⟨c0, hc0⟩ := br.ty.2; rw [h1] at hc0; cases hc0; rfl⟩
      intro o x hx'
      have hx'' : (b.cells.take off ++ xs ++ b.cells.drop (off + xs.length))[o]? = some x := by rw [← hcs]; exact hx'
      by_cases ho : o < off
      · have : b.cells[o]? = some x := by
          rw [List.append_assoc, List.getElem?_append_left (by simp; omega), List.getElem?_take, if_pos ho] at hx''; exact hx''
        obtain ⟨h5, y, h6, h7⟩ := h4 o x this
        exact ⟨h5, y, by rw [hc'in _ (by omega)]; exact h6, h7.ext hx⟩
      · by_cases ho2 : o < off + xs.length
        · have hxo : xs[o - off]? = some x := by
            rw [List.append_assoc, List.getElem?_append_right (by simp; omega)] at hx''
            simp only [List.length_take] at hx''
            rw [show o - min off b.cells.length = o - off by omega, List.getElem?_append_left (by omega)] at hx''
            exact hx''
          have hyl : o - off < ys.length := by rw [hv.1]; omega
          have hy : ys[o - off]? = some ys[o - off] := List.getElem?_eq_getElem hyl
          refine ⟨(hv.2 _ _ _ hxo hy).1, ys[o - off], ?_, ((hv.2 _ _ _ hxo hy).2).ext hx⟩
          have := hc'mid (o - off) hyl
          rw [show p.sh + off + (o - off) = p.sh + o by omega] at this
          rw [this]; exact hy
        · have : b.cells[o]? = some x := by
            rw [List.getElem?_append_right (by simp; omega)] at hx''
            simp only [List.length_append, List.length_take, List.getElem?_drop] at hx''
            rw [show off + xs.length + (o - (min off b.cells.length + xs.length)) = o by omega] at hx''
            exact hx''
          obtain ⟨h5, y, h6, h7⟩ := h4 o x this
          exact ⟨h5, y, by rw [hc'out _ (by rw [hv.1]; omega)]; exact h6, h7.ext hx⟩
    · rw [if_neg hi] at hgi
      have hne : q.b ≠ p.b := fun e' => hi (hs.inj i id bi b q p hgi hg hmi hm e')
      exact (hs.br i bi q hgi hmi).mono (setRow_other w p.b q.b c' hne) hx.mF hx.cell hx.mM fun _ h => h
  · intro i j bi bj q q' hi hj hq hq' e'
    rw [Hp.get_put] at hi hj
    have alive : ∀ k bk, (if k = id then (h.get id).map fun _ => (⟨cs, b.sz, b.loose, b.frz, b.ty⟩ : Blk) else h.get k) = some bk → ∃ bk', h.get k = some bk' := by
      intro k bk hk
      by_cases e2 : k = id
      · subst e2; exact ⟨b, hg⟩
      · rw [if_neg e2] at hk; exact ⟨bk, hk⟩
    obtain ⟨b1, h1'⟩ := alive i bi hi
    obtain ⟨b2, h2'⟩ := alive j bj hj
    exact hs.inj i j b1 b2 q q' h1' h2' hq hq' e'
  · intro i q hq
    have := hs.lt i q hq
    exact ⟨this.1, by simpa using this.2⟩
  · intro i bi hi
    rw [Hp.get_put] at hi
    by_cases e' : i = id
    · subst e'; exact hs.fresh _ _ hg
    · rw [if_neg e'] at hi; exact hs.fresh _ _ hi
  · intro b' o hF
    simpa using hs.fw _ _ hF

theorem oneCells {w F M cs ys} (h : VL w F M cs ys) : ∀ v ∈ ys, v.oneCell' = true := by
  intro v hv
  obtain ⟨i, hi, rfl⟩ := List.getElem_of_mem hv
  have hc : i < cs.length := by rw [← h.1]; exact hi
  have := h.2 i cs[i] ys[i] (List.getElem?_eq_getElem hc) (List.getElem?_eq_getElem hi)
  exact this.2.one this.1

/-- the cells of a block, read -/
theorem HS.read {h : Hp} {w F M} (hs : HS h w F M) {id : Nat} {b : Blk} {p : Pl} (hg : h.get id = some b) (hm : M id = some p) {off n : Nat} {l : List PV} (hc : cut b.cells off n = some l) :
    ∃ ys, VL w F M l ys ∧ ys.length = n ∧ ∀ (j : Nat) v, ys[j]? = some v → w.cell? ⟨p.b, p.sh + off + j, none⟩ = some v := by
  have br := hs.br id b p hg hm
  obtain ⟨c, e, h1, h2, h3, h4⟩ := br.blk
  obtain ⟨hl, hn⟩ := cut_spec hc
  have hlen : l.length = n := by rw [hl]; simp; omega
  have hpn := br.n
  refine ⟨(c.toList.drop (p.sh + off)).take n, ⟨?_, ?_⟩, ?_, ?_⟩
  · simp; by_cases h0 : n = 0
    · subst h0; simp [hlen]
    · omega
  · intro i x y hx hy
    have hin : i < n := by have := (List.getElem?_eq_some_iff.1 hx).1; omega
    rw [hl, List.getElem?_take, if_pos hin, List.getElem?_drop] at hx
    rw [List.getElem?_take, if_pos hin, List.getElem?_drop] at hy
    obtain ⟨h5, z, h6, h7⟩ := h4 (off + i) x hx
    rw [show p.sh + (off + i) = p.sh + off + i by omega] at h6
    have : y = z := by
      have h8 : c[p.sh + off + i]? = some y := by simpa using hy
      rw [h6] at h8; cases h8; rfl
    subst this
    exact ⟨h5, h7⟩
  · simp; by_cases h0 : n = 0
    · omega
    · omega
  · intro j v hv
    have hin : j < n := by
      have := (List.getElem?_eq_some_iff.1 hv).1; simp at this; omega
    rw [List.getElem?_take, if_pos hin, List.getElem?_drop] at hv
    rw [cell_of h1]; simpa using hv

/-- the cells behind an element's pointer, read -/
theorem ep_read {w : World} {F : Fz} {cs : List PV} {b o : Nat} {f : Nat → Value} {M : Mp}
    (h4 : ∀ (j : Nat) c, cs[j]? = some c → cellOk c = true ∧ F b (o + j) ∧ w.cell? ⟨b, o + j, none⟩ = some (f j)) (h5 : ∀ (j : Nat) c, cs[j]? = some c → VR w F noMap c (f j))
    {off n : Nat} {l : List PV} (hc : cut cs off n = some l) : ∃ ys, VL w F M l ys ∧ ys.length = n ∧ ∀ (j : Nat) v, ys[j]? = some v → w.cell? ⟨b, o + off + j, none⟩ = some v := by
  obtain ⟨hl, hn⟩ := cut_spec hc
  have hlen : l.length = n := by rw [hl]; simp; omega
  refine ⟨(List.range n).map fun j => f (off + j), ⟨by simp [hlen], ?_⟩, by simp, ?_⟩
  · intro i x y hx hy
    have hin : i < n := by have := (List.getElem?_eq_some_iff.1 hx).1; omega
    rw [hl, List.getElem?_take, if_pos hin, List.getElem?_drop] at hx
    simp [hin] at hy
    subst hy
    exact ⟨(h4 _ _ hx).1, (h5 _ _ hx).mono (fun _ _ h => h) (fun _ _ _ => rfl) (fun _ _ h => by cases h)⟩
  · intro j v hv
    have hin : j < n := by have := (List.getElem?_eq_some_iff.1 hv).1; simpa using this
    simp [hin] at hv
    subst hv
    have hcs : off + j < cs.length := by omega
    have := (h4 (off + j) _ (List.getElem?_eq_getElem hcs)).2.2
    rw [show o + off + j = o + (off + j) by omega]; exact this
end Go.Ev
