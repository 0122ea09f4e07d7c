/- Answers about cells that are not looked into are right where the evaluator gives them for what stands there. -/
import Derived.Test.YtmlnfoabpcccnaaGreatEvBc
import Derived.Test.YtmlnfoabpcccnaaGreatEvBg
import Derived.Test.YtmlnfoabpcccnaaGreatEvBe
set_option linter.all false
/- Answers about cells that are not looked into are right where the evaluator gives them for what stands there. -/
namespace Go.Ev
variable [Env]
section
variable {P : Program} {w : World} {F : Fz} {M : Mp}
/-- what stands there -/
def res (p : PV) : PV := match p with
  | .unk n => Env.pv n
  | p => p
theorem VR.res {p : PV} {v : Value} (h : VR w F M p v) : VR w F M (Ev.res p) v := by
  cases p with
  | unk n =>
    cases h with
    | unk h =>
      show VR w F M (Env.pv n) v
      rcases Env.form n with ⟨x, e⟩ | ⟨es, ex, e⟩
      · rw [e] at h ⊢
        cases h with
        | v hx => exact .v hx
      · rw [e] at h ⊢
        cases h with
        | sl h1 h2 h3 h4 h5 => exact .sl h1 h2 h3 h4 h5
  | _ => exact h
/-- the second tells less -/
def Le (p' p : PV) : Prop := ∀ (w : World) (F : Fz) (M : Mp) (v : Value), VR w F M p' v → VR w F M p v
theorem Le.refl (p : PV) : Le p p := fun _ _ _ _ h => h
theorem Le.unk {n : Nat} {p : PV} (h : Env.pv n = p) : Le p (.unk n) := fun w F M v g => by
  subst h
  refine .unk ?_
  rcases Env.form n with ⟨x, e⟩ | ⟨es, ex, e⟩
  · rw [e] at g ⊢
    cases g with
    | v hx => exact .v hx
  · rw [e] at g ⊢
    cases g with
    | sl h1 h2 h3 h4 h5 => exact .sl h1 h2 h3 h4 h5
theorem GoodQ.weak {res : Result Value} {p' p : PV} {hp h : Hp} (g : GoodQ w F M res p' hp h) (l : Le p' p) : GoodQ w F M res p hp h := by
  obtain ⟨h1, v, h2, h3⟩ := g
  exact ⟨h1, v, h2, l w F M v h3⟩
theorem VO.res {x : Option PV} {v : Option Value} (h : VO w F M x v) : VO w F M (x.map Ev.res) v := by
  cases x <;> cases v
  · trivial
  · exact h.elim
  · exact h.elim
  · exact VR.res h

/-- an answer agrees with what the evaluator gives -/
def AskEq (T : Types) : AskOp → List PV → PV → Prop
  | .bin op t, [x, y], p => ∃ p', bin T op t (res x) (res y) = some p' ∧ Le p' p
  | .len t, [x], p => ∃ p', (∀ hp, primLen T hp t (some (res x)) = some (p', hp)) ∧ Le p' p
  | .index t, [x, i], p => ∃ p', (∀ hp, primIndex T hp t (some (res x)) (some (res i)) = some (p', hp)) ∧ Le p' p
  | .addr t, [x, i], p => ∃ p', (∀ hp, primIndexAddr T hp t (some (res x)) (some (res i)) = some (p', hp)) ∧ Le p' p
  | .slice t, [x, a, b], p => ∀ lo hi, a = bndPV lo → b = bndPV hi → ∃ p', sliceOf T t (res x) (lo.map res) (hi.map res) none = some p' ∧ Le p' p
  | .conv s d, [x], p => ∃ p', (∀ hp, primConv0 T hp s d (some (res x)) = some (p', hp)) ∧ isInt p' = true ∧ Le p' p
  | _, _, _ => False
  where
  isInt : PV → Bool
    | .v (.int _ _) => true
    | _ => false

theorem AskOk.of {T : Types} (h : TOk P T) {A : AskOp → List PV → Option PV} (hA : ∀ o l p, A o l = some p → AskEq T o l p) : AskOk P A where
  bin := fun op t x y p e w F M v u ox oy hp hx hy => by
    obtain ⟨p', e', hl⟩ := hA _ _ _ e
    exact (bin_sound (hp := hp) h (x := some (res x)) (y := some (res y)) (fun q hq => by cases hq; exact hx.res) (fun q hq => by cases hq; exact hy.res) (by show ret1 hp (Ev.bin T op t (res x) (res y)) = _; rw [e']; rfl)).weak hl
  len := fun t x p e w F M v ty hp hx => by
    obtain ⟨p', e', hl⟩ := hA _ _ _ e
    exact (len_sound h (fun q hq => by cases hq; exact hx.res) (e' hp)).weak hl
  index := fun t x i p e w F M v u hp hx hi => by
    obtain ⟨p', e', hl⟩ := hA _ _ _ e
    exact (index_sound h (fun q hq => by cases hq; exact hx.res) (fun q hq => by cases hq; exact hi.res) (e' hp)).weak hl
  addr := fun t x i p e w F M v u hp hx hi => by
    obtain ⟨p', e', hl⟩ := hA _ _ _ e
    exact (indexAddr_sound h (fun q hq => by cases hq; exact hx.res) (fun q hq => by cases hq; exact hi.res) (e' hp)).weak hl
  slice := fun t x lo hi p e w F M v l' h' hp hx hl hh => by
    obtain ⟨p', e', hle⟩ := hA _ _ _ e lo hi rfl rfl
    exact (sliceOf_sound h hx.res hl.res hh.res (show VO w F M none none from trivial) e').weak hle
  conv := fun s d x p e w F M v hp hx => by
    obtain ⟨p', e', hi, hl⟩ := hA _ _ _ e
    rcases conv_sound0 h (fun q hq => by cases hq; exact hx.res) (e' hp) with g | ⟨si, di, q, h1, h2, h3, h4, h5, h6, h7⟩ | ⟨si, di, q, h1, h2, h6, h7⟩
    · exact g.weak hl
    · exfalso
      unfold bytesStr at h7
      split at h7
      · split at h7 <;> cases h7
        simp [AskEq.isInt] at hi
      · cases h7
    · exfalso
      unfold convPtr at h7
      repeat' (split at h7)
      all_goals (first | (cases h7; simp [AskEq.isInt] at hi; done) | (cases h7; done))
end
end Go.Ev

/- The expressions' grammar, and what a reader of one production is told. -/
namespace Go.Ev.A
abbrev I (n : Nat) : PV := .v (.int .i64 (.ofNat n))
abbrev NL : PV := .v (.slice none 0 0)
abbrev S (l : List Nat) : PV := .v (.string ⟨⟨l.map UInt8.ofNat⟩⟩)
abbrev Bo (b : Bool) : PV := .v (.bool b)
/-- a token (kind, text, number), or an expression -/
inductive It where
  | tok (k : Nat) (t n : PV)
  | hole
/-- a variable; a number -/
abbrev vTok : It := .tok 2 (.unk 200) (I 0)
abbrev nTok : It := .tok 3 (S []) (.unk 201)
def p0 : List It := [nTok]
def p1 : List It := [vTok]
def p2 : List It := [.tok 1 (S [116, 114, 117, 101]) (I 0)]
def p3 : List It := [.tok 1 (S [102, 97, 108, 115, 101]) (I 0)]
def p4 : List It := [.tok 1 (S [97]) (I 0)]
def p5 : List It := [.tok 1 (S [98]) (I 0)]
def p6 : List It := [.tok 1 (S [111, 107]) (I 0)]
def p7 : List It := [.tok 1 (S [101, 114, 114, 111, 114]) (I 0)]
def p8 : List It := [.tok 4 (S [115]) (I 0)]
def p9 : List It := [.tok 6 (S [91]) (I 0), .tok 6 (S [93]) (I 0)]
def p10 : List It := [.tok 6 (S [91]) (I 0), .hole, .tok 6 (S [93]) (I 0)]
def p11 : List It := [.tok 6 (S [91]) (I 0), .hole, .tok 6 (S [44]) (I 0), .hole, .tok 6 (S [93]) (I 0)]
def p12 : List It := [.tok 6 (S [91]) (I 0), .hole, .tok 6 (S [124]) (I 0), .hole, .tok 6 (S [93]) (I 0)]
def p13 : List It := [.tok 6 (S [123]) (I 0), .hole, .tok 6 (S [125]) (I 0)]
def p14 : List It := [.tok 6 (S [123]) (I 0), .hole, .tok 6 (S [44]) (I 0), .hole, .tok 6 (S [125]) (I 0)]
def p15 : List It := [.tok 1 (S [102, 117, 110]) (I 0), .tok 6 (S [40]) (I 0), vTok, .tok 6 (S [41]) (I 0), .tok 6 (S [45, 62]) (I 0), .hole, .tok 1 (S [101, 110, 100]) (I 0)]
def p16 : List It := [.tok 1 (S [102, 117, 110]) (I 0), .tok 6 (S [40]) (I 0), vTok, .tok 6 (S [41]) (I 0), .tok 1 (S [119, 104, 101, 110]) (I 0), .tok 1 (S [105, 115, 95, 105, 110, 116]) (I 0), .tok 6 (S [40]) (I 0), vTok, .tok 6 (S [41]) (I 0), .tok 6 (S [45, 62]) (I 0), .hole, .tok 1 (S [101, 110, 100]) (I 0)]
def p17 : List It := [.tok 1 (S [102, 117, 110]) (I 0), .tok 6 (S [40]) (I 0), .tok 6 (S [41]) (I 0), .tok 6 (S [45, 62]) (I 0), .hole, .tok 1 (S [101, 110, 100]) (I 0)]
def p18 : List It := [.tok 6 (S [35, 123]) (I 0), .tok 1 (S [97]) (I 0), .tok 6 (S [61, 62]) (I 0), .hole, .tok 6 (S [125]) (I 0)]
def p19 : List It := [.tok 6 (S [40]) (I 0), .hole, .tok 6 (S [43]) (I 0), .hole, .tok 6 (S [41]) (I 0)]
def p20 : List It := [.tok 6 (S [40]) (I 0), .hole, .tok 6 (S [45]) (I 0), .hole, .tok 6 (S [41]) (I 0)]
def p21 : List It := [.tok 6 (S [40]) (I 0), .hole, .tok 6 (S [42]) (I 0), .hole, .tok 6 (S [41]) (I 0)]
def p22 : List It := [.tok 6 (S [40]) (I 0), .hole, .tok 1 (S [100, 105, 118]) (I 0), .hole, .tok 6 (S [41]) (I 0)]
def p23 : List It := [.tok 6 (S [40]) (I 0), .hole, .tok 1 (S [114, 101, 109]) (I 0), .hole, .tok 6 (S [41]) (I 0)]
def p24 : List It := [.tok 6 (S [40]) (I 0), .hole, .tok 6 (S [60]) (I 0), .hole, .tok 6 (S [41]) (I 0)]
def p25 : List It := [.tok 6 (S [40]) (I 0), .hole, .tok 6 (S [61, 61]) (I 0), .hole, .tok 6 (S [41]) (I 0)]
def p26 : List It := [.tok 6 (S [40]) (I 0), .tok 1 (S [110, 111, 116]) (I 0), .hole, .tok 6 (S [41]) (I 0)]
def p27 : List It := [.tok 1 (S [103, 101, 116]) (I 0), .tok 6 (S [40]) (I 0), .hole, .tok 6 (S [44]) (I 0), .tok 1 (S [97]) (I 0), .tok 6 (S [41]) (I 0)]
def p28 : List It := [.tok 1 (S [97, 112, 112, 108, 121]) (I 0), .tok 6 (S [40]) (I 0), .hole, .tok 6 (S [44]) (I 0), .hole, .tok 6 (S [41]) (I 0)]
def p29 : List It := [.tok 1 (S [97, 115, 115, 101, 114, 116]) (I 0), .tok 6 (S [40]) (I 0), .hole, .tok 6 (S [58]) (I 0), .tok 5 (S [105, 110, 116]) (I 0), .tok 6 (S [41]) (I 0)]
def p30 : List It := [.tok 1 (S [112, 117, 116]) (I 0), .tok 6 (S [40]) (I 0), .hole, .tok 6 (S [44]) (I 0), .tok 1 (S [97]) (I 0), .tok 6 (S [44]) (I 0), .hole, .tok 6 (S [41]) (I 0)]
def p31 : List It := [.tok 1 (S [112, 117, 116]) (I 0), .tok 6 (S [40]) (I 0), .hole, .tok 6 (S [44]) (I 0), .tok 1 (S [98]) (I 0), .tok 6 (S [44]) (I 0), .hole, .tok 6 (S [41]) (I 0)]
def p32 : List It := [.tok 1 (S [112, 117, 116]) (I 0), .tok 6 (S [40]) (I 0), .hole, .tok 6 (S [44]) (I 0), .tok 4 (S [115]) (I 0), .tok 6 (S [44]) (I 0), .hole, .tok 6 (S [41]) (I 0)]
def p33 : List It := [.tok 1 (S [114, 97, 105, 115, 101]) (I 0), .tok 6 (S [40]) (I 0), .hole, .tok 6 (S [41]) (I 0)]
def p34 : List It := [.tok 1 (S [116, 114, 121]) (I 0), .hole, .tok 1 (S [99, 97, 116, 99, 104]) (I 0), .tok 2 (S [95]) (I 0), .tok 6 (S [45, 62]) (I 0), .hole, .tok 1 (S [101, 110, 100]) (I 0)]
def p35 : List It := [.tok 1 (S [99, 97, 115, 101]) (I 0), .hole, .tok 1 (S [111, 102]) (I 0), nTok, .tok 6 (S [45, 62]) (I 0), .hole, .tok 6 (S [59]) (I 0), vTok, .tok 6 (S [45, 62]) (I 0), .hole, .tok 1 (S [101, 110, 100]) (I 0)]
def p36 : List It := [.tok 1 (S [99, 97, 115, 101]) (I 0), .hole, .tok 1 (S [111, 102]) (I 0), .tok 6 (S [91]) (I 0), .tok 6 (S [93]) (I 0), .tok 6 (S [45, 62]) (I 0), .hole, .tok 6 (S [59]) (I 0), .tok 6 (S [91]) (I 0), vTok, .tok 6 (S [124]) (I 0), .tok 2 (S [95]) (I 0), .tok 6 (S [93]) (I 0), .tok 6 (S [45, 62]) (I 0), .hole, .tok 1 (S [101, 110, 100]) (I 0)]
def p37 : List It := [.tok 1 (S [99, 97, 115, 101]) (I 0), .hole, .tok 1 (S [111, 102]) (I 0), .tok 6 (S [123]) (I 0), .tok 1 (S [111, 107]) (I 0), .tok 6 (S [44]) (I 0), vTok, .tok 6 (S [125]) (I 0), .tok 6 (S [45, 62]) (I 0), .hole, .tok 6 (S [59]) (I 0), .tok 2 (S [95]) (I 0), .tok 6 (S [45, 62]) (I 0), .hole, .tok 1 (S [101, 110, 100]) (I 0)]
def p38 : List It := [.tok 1 (S [99, 97, 115, 101]) (I 0), .hole, .tok 1 (S [111, 102]) (I 0), vTok, .tok 1 (S [119, 104, 101, 110]) (I 0), .tok 1 (S [105, 115, 95, 105, 110, 116]) (I 0), .tok 6 (S [40]) (I 0), vTok, .tok 6 (S [41]) (I 0), .tok 6 (S [45, 62]) (I 0), .hole, .tok 6 (S [59]) (I 0), .tok 2 (S [95]) (I 0), .tok 6 (S [45, 62]) (I 0), .hole, .tok 1 (S [101, 110, 100]) (I 0)]
def p39 : List It := [.tok 1 (S [108, 101, 116]) (I 0), vTok, .tok 6 (S [61]) (I 0), .hole, .tok 1 (S [105, 110]) (I 0), .hole]
def p40 : List It := [.tok 1 (S [108, 101, 116]) (I 0), .tok 2 (S [95]) (I 0), .tok 6 (S [61]) (I 0), .hole, .tok 1 (S [105, 110]) (I 0), .hole]
def p41 : List It := [.tok 1 (S [115, 101, 110, 100]) (I 0), .tok 6 (S [40]) (I 0), .hole, .tok 6 (S [44]) (I 0), .hole, .tok 6 (S [41]) (I 0)]
def p42 : List It := [.tok 1 (S [115, 101, 108, 102]) (I 0), .tok 6 (S [40]) (I 0), .tok 6 (S [41]) (I 0)]
def p43 : List It := [.tok 1 (S [115, 112, 97, 119, 110]) (I 0), .tok 6 (S [40]) (I 0), .hole, .tok 6 (S [41]) (I 0)]
def p44 : List It := [.tok 1 (S [114, 101, 99, 101, 105, 118, 101]) (I 0), vTok, .tok 1 (S [119, 104, 101, 110]) (I 0), .tok 1 (S [105, 115, 95, 105, 110, 116]) (I 0), .tok 6 (S [40]) (I 0), vTok, .tok 6 (S [41]) (I 0), .tok 6 (S [45, 62]) (I 0), .hole, .tok 1 (S [97, 102, 116, 101, 114]) (I 0), .hole, .tok 1 (S [101, 110, 100]) (I 0)]
def p45 : List It := [.tok 1 (S [114, 101, 99, 101, 105, 118, 101]) (I 0), .tok 2 (S [95]) (I 0), .tok 6 (S [45, 62]) (I 0), .hole, .tok 1 (S [97, 102, 116, 101, 114]) (I 0), .hole, .tok 1 (S [101, 110, 100]) (I 0)]
/-- the tokens -/
def toks : List It := [nTok, vTok, .tok 1 (S [116, 114, 117, 101]) (I 0), .tok 1 (S [102, 97, 108, 115, 101]) (I 0), .tok 1 (S [97]) (I 0), .tok 1 (S [98]) (I 0), .tok 1 (S [111, 107]) (I 0), .tok 1 (S [101, 114, 114, 111, 114]) (I 0), .tok 4 (S [115]) (I 0), .tok 6 (S [91]) (I 0), .tok 6 (S [93]) (I 0), .tok 6 (S [44]) (I 0), .tok 6 (S [124]) (I 0), .tok 6 (S [123]) (I 0), .tok 6 (S [125]) (I 0), .tok 1 (S [102, 117, 110]) (I 0), .tok 6 (S [40]) (I 0), .tok 6 (S [41]) (I 0), .tok 6 (S [45, 62]) (I 0), .tok 1 (S [101, 110, 100]) (I 0), .tok 1 (S [119, 104, 101, 110]) (I 0), .tok 1 (S [105, 115, 95, 105, 110, 116]) (I 0), .tok 6 (S [35, 123]) (I 0), .tok 6 (S [61, 62]) (I 0), .tok 6 (S [43]) (I 0), .tok 6 (S [45]) (I 0), .tok 6 (S [42]) (I 0), .tok 1 (S [100, 105, 118]) (I 0), .tok 1 (S [114, 101, 109]) (I 0), .tok 6 (S [60]) (I 0), .tok 6 (S [61, 61]) (I 0), .tok 1 (S [110, 111, 116]) (I 0), .tok 1 (S [103, 101, 116]) (I 0), .tok 1 (S [97, 112, 112, 108, 121]) (I 0), .tok 1 (S [97, 115, 115, 101, 114, 116]) (I 0), .tok 6 (S [58]) (I 0), .tok 5 (S [105, 110, 116]) (I 0), .tok 1 (S [112, 117, 116]) (I 0), .tok 1 (S [114, 97, 105, 115, 101]) (I 0), .tok 1 (S [116, 114, 121]) (I 0), .tok 1 (S [99, 97, 116, 99, 104]) (I 0), .tok 2 (S [95]) (I 0), .tok 1 (S [99, 97, 115, 101]) (I 0), .tok 1 (S [111, 102]) (I 0), .tok 6 (S [59]) (I 0), .tok 1 (S [108, 101, 116]) (I 0), .tok 6 (S [61]) (I 0), .tok 1 (S [105, 110]) (I 0), .tok 1 (S [115, 101, 110, 100]) (I 0), .tok 1 (S [115, 101, 108, 102]) (I 0), .tok 1 (S [115, 112, 97, 119, 110]) (I 0), .tok 1 (S [114, 101, 99, 101, 105, 118, 101]) (I 0), .tok 1 (S [97, 102, 116, 101, 114]) (I 0)]
def prods : List (List It) := [p0, p1, p2, p3, p4, p5, p6, p7, p8, p9, p10, p11, p12, p13, p14, p15, p16, p17, p18, p19, p20, p21, p22, p23, p24, p25, p26, p27, p28, p29, p30, p31, p32, p33, p34, p35, p36, p37, p38, p39, p40, p41, p42, p43, p44, p45]

def un (a : Nat) : Nat → List PV
  | 0 => []
  | n + 1 => .unk a :: un (a + 1) n
def txtEq : PV → PV → Bool
  | .v (.string a), .v (.string b) => bytesEq a.data.toList b.data.toList
  | _, _ => false
def txtIn (s : PV) : List PV → Bool
  | [] => false
  | t :: r => txtEq s t || txtIn s r
/-- the first byte is no capital letter -/
def noCap : PV → Bool
  | .v (.string a) => match a.data.toList with
    | [] => true
    | c :: _ => !(Nat.ble 65 c.toNat && Nat.ble c.toNat 90)
  | _ => false
/-- the words that begin an expression -/
def wordsT : List PV := [S [112, 117, 116], S [103, 101, 116], S [97, 112, 112, 108, 121], S [102, 117, 110], S [108, 101, 116], S [99, 97, 115, 101], S [116, 114, 121], S [114, 97, 105, 115, 101], S [97, 115, 115, 101, 114, 116], S [115, 112, 97, 119, 110], S [115, 101, 108, 102], S [115, 101, 110, 100], S [114, 101, 99, 101, 105, 118, 101]]
def reservedT : List PV := [S [109, 111, 100, 117, 108, 101], S [105, 109, 112, 111, 114, 116], S [101, 120, 112, 111, 114, 116], S [115, 105, 103], S [119, 104, 101, 110], S [99, 97, 115, 101], S [111, 102], S [101, 110, 100], S [116, 114, 121], S [99, 97, 116, 99, 104], S [114, 97, 105, 115, 101], S [97, 115, 115, 101, 114, 116], S [115, 112, 97, 119, 110], S [115, 101, 108, 102], S [115, 101, 110, 100], S [114, 101, 99, 101, 105, 118, 101], S [97, 102, 116, 101, 114], S [108, 101, 116], S [105, 110], S [102, 117, 110], S [97, 112, 112, 108, 121], S [112, 117, 116], S [103, 101, 116], S [97, 110, 100], S [111, 114], S [110, 111, 116], S [100, 105, 118], S [114, 101, 109]]
def openT : List PV := [S [91], S [123], S [35, 123], S [40], S [38]]
/-- the texts that are looked for -/
def isL : List PV := [S [40], S [41], S [91], S [93], S [123], S [125], S [44], S [124], S [61, 62], S [45, 62], S [110, 111, 116], S [59], S [119, 104, 101, 110], S [101, 110, 100], S [111, 102], S [99, 97, 116, 99, 104], S [97, 102, 116, 101, 114], S [105, 110], S [61], S [97, 110, 100], S [111, 114], S [58]]
def signL : List PV := [S [58], S [91], S [123], S [35, 123], S [40], S [38]]
/-- what no expression begins with -/
def neverT : List PV := [S [41], S [93], S [125], S [110, 111, 116]]
def starts : It → Bool
  | .hole => true
  | .tok 1 t _ => !txtIn t reservedT || txtIn t wordsT
  | .tok 2 (.unk _) _ => true
  | .tok 3 _ _ => true
  | .tok 4 _ _ => true
  | .tok 6 t _ => txtIn t openT
  | _ => false
/-- is it a sign (or, if w, a name) of this text? -/
def isT (w : Bool) (s : PV) : It → Bool
  | .tok 6 t _ => txtEq t s
  | .tok 1 t _ => w && txtEq t s
  | _ => false
/-- the reader at place m -/
def rd (m : Nat) (t : Bool) : List PV := [.unk 0, .unk 1, .unk (1000 + m), I 0, .unk 3, Bo t]
def same (r : PV) (m : Nat) (t : Bool) : Option PV := some (.tup [r, .tup (rd m t)])
def colonS : PV := S [58]
def parS : PV := S [40]
/-- behind the production's last token: fol: a colon and a type -/
def atEnd (fol : Bool) (f m : Nat) (t : Bool) (args : List PV) : Option PV := match f, args with
  | 57, [s] => match txtEq s parS with
    | true => same (Bo false) m t
    | false => none
  | 96, [.v (.int .i64 (.ofNat 0)), s] => match txtEq s colonS with
    | true => same (Bo fol) m t
    | false => none
  | 107, [] => same (Bo fol) m t
  | _, _ => none
/-- at a token, or an expression (c: a colon behind it; w: it may be two levels deeper) -/
def atIt (c w : Bool) (f m : Nat) (t : Bool) (args : List PV) (x : It) : Option PV := match f, args with
  | 53, [] => match x with
    | .tok k s n => same (.agg [I k, s, n, .unk (3000 + m)]) m t
    | .hole => same (.agg (un (3200 + 4 * m) 4)) m t
  | 57, [s] => match x with
    | .hole => match txtIn s neverT with
      | true => same (Bo false) m t
      | false => none
    | x => match txtIn s isL with
      | true => same (Bo (isT true s x)) m t
      | false => none
  | 96, [.v (.int .i64 (.ofNat 0)), s] => match x with
    | .hole => none
    | x => match txtIn s signL with
      | true => same (Bo (isT false s x)) m t
      | false => none
  | 51, [] => same (Bo (starts x)) m t
  | 107, [] => match x with
    | .hole => none
    | x => match isT false colonS x with
      | true => none
      | false => same (Bo false) m t
  | 108, [] => match x with
    | .tok 1 s _ => match txtIn s reservedT with
      | true => none
      | false => same s (m + 1) t
    | _ => none
  | 141, [] => match x with
    | .tok 2 (.unk n) _ => same (.unk n) (m + 1) t
    | _ => none
  | 26, [.unk k] => match x with
    | .hole => match (Nat.beq k 5 || w && Nat.beq k 6) && (!c || t) with
      | true => some (.tup [.agg (un (2000 + 20 * m) 10), .tup (rd (m + 1) false)])
      | false => none
    | _ => none
  | _, _ => none
/-- does a colon stand behind? -/
def colonAt (fol : Bool) : Option It → Bool
  | none => fol
  | some y => isT false colonS y
def firstIs (s : PV) : Option It → Bool
  | some x => isT false s x
  | none => false
/-- the second element of a list -/
def twoAt (it : List It) (m : Nat) : Bool := Nat.beq m 3 && (firstIs (S [91]) it[0]? && firstIs (S [44]) it[2]?)
/-- what a reader of one production is told: of itself, at a place -/
def orcP (it : List It) (fol : Bool) : Orc := fun f ds => match ds with
  | .top :: .mp 73 :: .tup [.unk 0, .unk 1, .unk k, .v (.int .i64 (.ofNat 0)), .unk 3, .v (.bool t)] :: args => match Nat.ble 1000 k with
    | false => none
    | true => match Nat.beq (k - 1000) it.length with
      | true => atEnd fol f (k - 1000) t args
      | false => match it[k - 1000]? with
        | none => none
        | some x => atIt (colonAt fol it[k - 1000 + 1]?) (twoAt it (k - 1000)) f (k - 1000) t args x
  | _ => none
def isTok : Option It → Bool
  | some (.tok _ _ _) => true
  | _ => false
/-- numbers and texts that are not looked into: places, depths, a variable's name -/
def askP (it : List It) : AskOp → List PV → Option PV
  | .bin .add _, [.unk k, .v (.int .i64 (.ofNat 1))] => match Nat.ble 1000 k && isTok it[k - 1000]? || Nat.ble 4 k && Nat.ble k 6 with
    | true => some (.unk (k + 1))
    | false => none
  | .bin .gtr _, [.unk k, .v (.int .i64 (.ofNat 20))] => match Nat.ble 4 k && Nat.ble k 6 with
    | true => some (Bo false)
    | false => none
  | .bin .eql _, [.unk 200, s] => match noCap s with
    | true => some (Bo false)
    | false => none
  | _, _ => none
end Go.Ev.A

/- What the reader's own questions of a token come to: definitions. -/
namespace Go.Ev.A
/-- a token's cells at the reader's place -/
def cells : It → List PV
  | .tok k s n => [I k, s, n, .unk 3000]
  | .hole => []
/-- at place 0: the tokens' number, the token there (and, if ty, a type behind it) -/
def askM (x : It) (ty : Bool) : AskOp → List PV → Option PV
  | .len 68, [.unk 0] => some (.unk 900)
  | .bin .lss _, [.unk a, .unk 900] => match Nat.beq a 1000 || ty && Nat.beq a 1001 with
    | true => some (Bo true)
    | false => none
  | .bin .add _, [.unk 1000, .v (.int .i64 (.ofNat k))] => match Nat.ble k 1 with
    | true => some (.unk (1000 + k))
    | false => none
  | .bin .sub _, [.unk 1001, .v (.int .i64 (.ofNat 1))] => some (.unk 1000)
  | .addr 68, [.unk 0, .unk a] => match Nat.beq a 1000 with
    | true => some (.ep (cells x) 0)
    | false => match ty && Nat.beq a 1001 with
      | true => some (.ep [I 5, .unk 910, .unk 911, .unk 912] 0)
      | false => none
  | .bin .eql _, [.unk 200, s] => match noCap s with
    | true => some (Bo false)
    | false => none
  | .bin .neq _, [.unk 200, s] => match noCap s with
    | true => some (Bo true)
    | false => none
  | _, _ => none
/-- the last cell not looked into -/
def noTail (cs : List PV) : List PV := cs.take 5 ++ [.unk 6]
/-- the questions -/
def qs : List (Nat × List PV) := (53, []) :: (51, []) :: (107, []) :: (108, []) :: (141, []) :: (isL.map fun s => (57, [s])) ++ (signL.map fun s => (96, [I 0, s]))
end Go.Ev.A

namespace Go.Ev
open Go.Proofs
noncomputable def fnsM : Fns := (.nd (.nd (.nd (.nd (.nd (.nd .lf none (.nd .lf (some e95) .lf)) none .lf) none .lf) none (.nd (.nd .lf none (.nd .lf (some e51) .lf)) none (.nd (.nd .lf none (.nd .lf (some e107) .lf)) (some e27) .lf))) none (.nd (.nd .lf none (.nd .lf none (.nd .lf (some e57) .lf))) (some e5) (.nd (.nd .lf none (.nd .lf (some e53) .lf)) none (.nd .lf none (.nd (.nd .lf (some e93) .lf) none .lf))))) none (.nd (.nd (.nd (.nd (.nd .lf none (.nd .lf (some e96) .lf)) none .lf) none .lf) none .lf) none (.nd (.nd (.nd (.nd .lf none (.nd .lf (some e98) .lf)) none .lf) none .lf) none (.nd (.nd .lf none (.nd .lf (some e54) .lf)) none (.nd .lf none (.nd (.nd .lf (some e94) .lf) none .lf))))))
theorem fnsMOk [Env] : FTOk Tryz.prog fnsM := .of ⟨trivial, ⟨trivial, ⟨trivial, ⟨trivial, ⟨trivial, ⟨trivial, trivial, ⟨e95ok, trivial, trivial⟩⟩, trivial⟩, trivial⟩, ⟨trivial, ⟨trivial, trivial, ⟨e51ok, trivial, trivial⟩⟩, ⟨e27ok, ⟨trivial, trivial, ⟨e107ok, trivial, trivial⟩⟩, trivial⟩⟩⟩, ⟨e5ok, ⟨trivial, trivial, ⟨trivial, trivial, ⟨e57ok, trivial, trivial⟩⟩⟩, ⟨trivial, ⟨trivial, trivial, ⟨e53ok, trivial, trivial⟩⟩, ⟨trivial, trivial, ⟨trivial, ⟨e93ok, trivial, trivial⟩, trivial⟩⟩⟩⟩⟩, ⟨trivial, ⟨trivial, ⟨trivial, ⟨trivial, ⟨trivial, trivial, ⟨e96ok, trivial, trivial⟩⟩, trivial⟩, trivial⟩, trivial⟩, ⟨trivial, ⟨trivial, ⟨trivial, ⟨trivial, trivial, ⟨e98ok, trivial, trivial⟩⟩, trivial⟩, trivial⟩, ⟨trivial, ⟨trivial, trivial, ⟨e54ok, trivial, trivial⟩⟩, ⟨trivial, trivial, ⟨trivial, ⟨e94ok, trivial, trivial⟩, trivial⟩⟩⟩⟩⟩⟩
end Go.Ev

/- Runs that ask an oracle: what they come to is known. -/
namespace Go.Ev
/-- a run from blocks told of, that asks an oracle, comes to this -/
noncomputable def goesF (T : Types) (FT : Fns) (O : Orc) (n : Nat) (fi : FI) (ty : Nat) (cs ds : List PV) (q : PV) (cs' : List PV) : Bool :=
  match (bodyB (R := PV) T fi).f (runF T FT O n) (.ptr 0 0 :: ds) (startS ty cs) (resS ty (twoS cs)) with
  | some x => peq 1000 x (.tup [q, .tup cs'])
  | none => false
/-- the same for a function that is called with values alone -/
noncomputable def goesD (T : Types) (FT : Fns) (O : Orc) (n : Nat) (fi : FI) (ds : List PV) (q : PV) : Bool :=
  match dataF ((bodyB (R := PV) T fi).f (runF T FT O n)) (fun p _ => some p) (some (ds, ⟨[], 0, []⟩)) with
  | some p => peq 1000 p q
  | none => false
section
variable [Env] {P : Program} {T : Types}
theorem knownS_goes (hT : TOk P T) (hm : P.follows .mixedOrders = true) {FT : Fns} (hF : FTOk P FT) {O : Orc} (hO : OrcOk P O) {f : Nat} {fi : FI} (hf : FIOk P f fi) {n ty : Nat} {cs ds : List PV} {q : PV} {cs' : List PV}
    (h : goesF T FT O n fi ty cs ds q cs' = true) : KnownS P f ty cs ds q cs' := by
  unfold goesF at h
  have hu := run_uni (T := T) (R := PV) FT O n
  rw [show (bodyB (R := PV) T fi).f (runF T FT O n) (.ptr 0 0 :: ds) (startS ty cs) (resS ty (twoS cs)) = bodyF (R := PV) T fi (run T FT O n) (.ptr 0 0 :: ds) (startS ty cs) (resS ty (twoS cs)) by rw [bodyB_eq, runF_eq]] at h
  split at h
  · rename_i x hx
    rcases bodyF_uni (T := T) hu fi (.ptr 0 0 :: ds) (startS ty cs) with g | ⟨p, h', g⟩
    · have g' : ∀ k, bodyF T fi (run T FT O n) (.ptr 0 0 :: ds) (startS ty cs) k = none := g
      rw [g'] at hx; cases hx
    · have g' : ∀ k, bodyF T fi (run T FT O n) (.ptr 0 0 :: ds) (startS ty cs) k = k p h' := g
      rw [g'] at hx
      unfold resS at hx
      cases hq : freeze deepN h' p with
      | none => simp [hq] at hx
      | some qh =>
        simp only [hq] at hx
        cases hg : viewS (twoS cs) qh.2 with
        | none => simp [hg] at hx
        | some tc =>
          obtain ⟨t, cs0⟩ := tc
          simp only [hg] at hx
          split at hx
          · rename_i hk
            obtain rfl := Nat.eq_of_beq_eq_true hk
            cases hx
            obtain ⟨m, m', h3, h4⟩ := peq_ans h
            exact knownS_run hT hm hF hO hf g' hq hg h3 h4
          · cases hx
  · cases h
end
end Go.Ev

/- What the reader's own questions of a token come to: one run each. -/
namespace Go.Ev.A
open Go.Proofs
noncomputable def eOf : Nat → FI
  | 53 => e53
  | 51 => e51
  | 107 => e107
  | 108 => e108
  | 141 => e141
  | 57 => e57
  | _ => e96
noncomputable def okM1 (x : It) (f : Nat) (args : List PV) : Bool := match atIt true true f 0 true args x with
  | some (.tup [r, .tup cs]) => goesF ⟨tysT, askM x false⟩ fnsM (fun _ _ => none) 10000 (eOf f) 73 (noTail (rd 0 true)) args r (noTail cs)
  | some _ => false
  | none => true
noncomputable def okMq (x : It) : List (Nat × List PV) → Bool
  | [] => true
  | q :: r => okM1 x q.1 q.2 && okMq x r
noncomputable def okM : List It → Bool
  | [] => true
  | x :: r => okMq x qs && okM r
end Go.Ev.A

namespace Go.Ev.A
open Go.Proofs
theorem mOk0 : okM ((toks.drop 0).take 18) = true := by kernel_rfl
end Go.Ev.A

namespace Go.Ev.A
open Go.Proofs
theorem mOk1 : okM ((toks.drop 18).take 18) = true := by kernel_rfl
end Go.Ev.A

namespace Go.Ev.A
open Go.Proofs
theorem mOk2 : okM ((toks.drop 36).take 18) = true := by kernel_rfl
/-- a colon and a type behind it -/
noncomputable def okC1 : Bool := goesF ⟨tysT, askM (.tok 6 colonS (I 0)) true⟩ fnsM (fun _ _ => none) 10000 e107 73 (noTail (rd 0 true)) [] (Bo true) (noTail (rd 0 true))
theorem cOk : okC1 = true := by kernel_rfl
end Go.Ev.A
