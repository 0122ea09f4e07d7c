/- Keys: whether a key is valid, for every kind and text. -/
import Derived.Test.YtaceidhlamlmhaaGreatEvKeyB
import Derived.Test.YtaceidhlamlmhaaGreatEvKeyC
import Derived.Test.YtaceidhlamlmhaaGreatEvFast
import Derived.Test.YtaceidhlamlmhaaGreatEvVal
set_option linter.all false
/- Keys: whether a key is valid, for every kind and text. -/
namespace Go.Ev
open Go.Proofs
variable [Env]
/-- the name of an atom? -/
def atomL : List UInt8 → Bool
  | [] => false
  | c :: r => Nat.ble (r.length + 1) 16 && (lowB c.toNat && allW r)
/-- the functions of letters, of one program and of the other -/
noncomputable def fnsV : Fns := (.nd (.nd (.nd (.nd (.nd (.nd (.nd .lf (some v63) .lf) none .lf) none .lf) none .lf) none .lf) none (.nd (.nd (.nd (.nd (.nd .lf (some v65) .lf) none .lf) none .lf) none .lf) none (.nd .lf none (.nd .lf none (.nd .lf (some v61) .lf))))) none (.nd (.nd (.nd (.nd (.nd (.nd .lf (some v64) .lf) none .lf) none .lf) none .lf) none .lf) none (.nd (.nd (.nd (.nd (.nd .lf (some v66) .lf) none .lf) none .lf) none .lf) none (.nd .lf none (.nd .lf none (.nd .lf (some v62) .lf))))))
theorem v31ok : FIOk Tryz.prog 31 v31 := .of Tryz.func31 (by kernel_rfl)
theorem v33ok : FIOk Tryz.prog 33 v33 := .of Tryz.func33 (by kernel_rfl)
theorem v46ok : FIOk Tryz.prog 46 v46 := .of Tryz.func46 (by kernel_rfl)
theorem v48ok : FIOk Tryz.prog 48 v48 := .of Tryz.func48 (by kernel_rfl)
theorem v61ok : FIOk Tryz.prog 61 v61 := .of Tryz.func61 (by kernel_rfl)
theorem v62ok : FIOk Tryz.prog 62 v62 := .of Tryz.func62 (by kernel_rfl)
theorem v63ok : FIOk Tryz.prog 63 v63 := .of Tryz.func63 (by kernel_rfl)
theorem v64ok : FIOk Tryz.prog 64 v64 := .of Tryz.func64 (by kernel_rfl)
theorem v65ok : FIOk Tryz.prog 65 v65 := .of Tryz.func65 (by kernel_rfl)
theorem v66ok : FIOk Tryz.prog 66 v66 := .of Tryz.func66 (by kernel_rfl)
theorem fnsVok : FTOk Tryz.prog fnsV := .of ⟨trivial, ⟨trivial, ⟨trivial, ⟨trivial, ⟨trivial, ⟨trivial, ⟨v63ok, trivial, trivial⟩, trivial⟩, trivial⟩, trivial⟩, trivial⟩, ⟨trivial, ⟨trivial, ⟨trivial, ⟨trivial, ⟨v65ok, trivial, trivial⟩, trivial⟩, trivial⟩, trivial⟩, ⟨trivial, trivial, ⟨trivial, trivial, ⟨v61ok, trivial, trivial⟩⟩⟩⟩⟩, ⟨trivial, ⟨trivial, ⟨trivial, ⟨trivial, ⟨trivial, ⟨v64ok, trivial, trivial⟩, trivial⟩, trivial⟩, trivial⟩, trivial⟩, ⟨trivial, ⟨trivial, ⟨trivial, ⟨trivial, ⟨v66ok, trivial, trivial⟩, trivial⟩, trivial⟩, trivial⟩, ⟨trivial, trivial, ⟨trivial, trivial, ⟨v62ok, trivial, trivial⟩⟩⟩⟩⟩⟩
theorem gV61 : fnsV.get 61 = some v61 := by kernel_rfl
theorem gV62 : fnsV.get 62 = some v62 := by kernel_rfl
theorem gV63 : fnsV.get 63 = some v63 := by kernel_rfl
theorem gV64 : fnsV.get 64 = some v64 := by kernel_rfl
theorem gV65 : fnsV.get 65 = some v65 := by kernel_rfl
theorem gV66 : fnsV.get 66 = some v66 := by kernel_rfl

theorem ret_of {R : Type} (fi : FI) (t : Nat) (hr : fi.fn.results.toList = [.tmp t]) {tm : Tm} {hp : Hp} {p : PV} (h : Al.get tm t = some p) (k : Nx R) : endK tys fi.fn k .ret ⟨tm, hp⟩ = k p hp := by
  simp only [endK, resOf, hr, resVars, resVar, h]
theorem body_of {fi : FI} {c : Code} (h : fi.fn.body = some c) (rc : RC PV) (l : List PV) (hp : Hp) (k : Nx PV) (hl : Nat.ble l.length fi.fn.ntmps = true) : bodyF tys fi rc l hp k = rc fi c ⟨initT 0 l, hp⟩ (endK tys fi.fn k) := by
  unfold bodyF
  rw [h]
  simp only [hl]

theorem first48 (call : CallK PV) (rc : RC PV) (s : ByteArray) (hp : Hp) (K : Ex → St → Option PV) : evC tys v48 (hdC b48) call rc ⟨[(0, (.v (.string s)))], hp⟩ K = K .normal ⟨[(2, .v (.bool false)), (0, (.v (.string s)))], hp⟩ := by kernel_rfl
theorem init48 (call : CallK PV) (rc : RC PV) (tm : Tm) (hp : Hp) (K : Ex → St → Option PV) : evC tys v48 q48 call rc ⟨tm, hp⟩ K = K .normal ⟨(3, .v (.int .i64 (.ofNat 1))) :: tm, hp⟩ := by kernel_rfl
theorem last48 (call : CallK PV) (rc : RC PV) (tm : Tm) (hp : Hp) (K : Ex → St → Option PV) : evC tys v48 z48 call rc ⟨tm, hp⟩ K = K .ret ⟨(2, .v (.bool true)) :: tm, hp⟩ := by kernel_rfl
theorem name48 (O : Orc) (s : ByteArray) (hp : Hp) (K : Nx PV) : bodyF tys v48 (run tys fnsV O 100) [.v (.string s)] hp K = K (.v (.bool (atomL s.data.toList))) hp := by
  have c65 : ∀ N n hp (K : Nx PV), callF tys fnsV O (run tys fnsV O (N + 1)) 65 [.v (.int .u8 n)] hp K = K (.v (.bool (lowB n))) hp := fun N n hp K => by rw [callF_of gV65 rfl]; exact runG65 fnsV O N n hp K
  have c66 : ∀ N n hp (K : Nx PV), callF tys fnsV O (run tys fnsV O (N + 1)) 66 [.v (.int .u8 n)] hp K = K (.v (.bool (digB n))) hp := fun N n hp K => by rw [callF_of gV66 rfl]; exact runG66 fnsV O N n hp K
  rw [body_of b48_eq _ _ _ _ (by kernel_rfl)]
  have hr : v48.fn.results.toList = [.tmp 2] := by kernel_rfl
  show evC tys v48 _ (callF tys fnsV O (run tys fnsV O 99)) (run tys fnsV O 99) ⟨[(0, (.v (.string s)))], hp⟩ _ = _
  rw [seq_of (first48 _ _ s hp)]
  generalize hL : s.data.toList = L
  cases L with
  | nil =>
    obtain ⟨tm', h1, h2⟩ := p48a _ (run tys fnsV O 99) (c65 98) s hp (by rw [hL]; rfl)
    rw [seq_ret h1, ret_of v48 2 hr h2]; rfl
  | cons c r =>
    have hlen : s.data.toList.length = r.length + 1 := by rw [hL]; rfl
    have hc : s.data.toList[0]? = some c := by rw [hL]; rfl
    have hd : s.data.toList.drop 1 = r := by rw [hL]; rfl
    cases hb : Nat.ble (r.length + 1) 16 with
    | false =>
      have : ¬ (r.length + 1 ≤ 16) := fun h => by rw [Nat.ble_eq_true_of_le h] at hb; cases hb
      obtain ⟨tm', h1, h2⟩ := p48b _ (run tys fnsV O 99) (c65 98) s hp (by omega)
      rw [seq_ret h1, ret_of v48 2 hr h2]
      simp only [atomL, hb, Bool.false_and]
    | true =>
      have h16 := Nat.le_of_ble_eq_true hb
      cases e1 : lowB c.toNat with
      | false =>
        obtain ⟨tm', h1, h2⟩ := p48c _ (run tys fnsV O 99) (c65 98) s hp c hc (by omega) e1
        rw [seq_ret h1, ret_of v48 2 hr h2]
        simp only [atomL, hb, e1, Bool.false_and, Bool.and_false]
      | true =>
        obtain ⟨tm1, h1, g0⟩ := p48d _ (run tys fnsV O 99) (c65 98) s hp c hc (by omega) e1
        rw [seq_of h1]
        obtain ⟨ex, tm2, i1, i2⟩ := loop48 (FT := fnsV) (O := O) hp s (by omega) c65 c66 (97 - r.length) r.length 1 ((3, .v (.int .i64 (.ofNat 1))) :: tm1) (by omega) (g0) rfl
        have i1' : ∀ K : Ex → St → Option PV, evC tys v48 (.loop l48) (callF tys fnsV O (run tys fnsV O 99)) (run tys fnsV O 99) ⟨(3, .v (.int .i64 (.ofNat 1))) :: tm1, hp⟩ K = K ex ⟨tm2, hp⟩ := fun K => by
          have := i1 K
          rw [show 97 - r.length + r.length + 3 = 100 by omega] at this
          exact this
        rw [hd] at i2
        have blk : ∀ K : Ex → St → Option PV, evC tys v48 (.seq q48 (.block 0 (.loop l48))) (callF tys fnsV O (run tys fnsV O 99)) (run tys fnsV O 99) ⟨tm1, hp⟩ K = blockK 0 K ex ⟨tm2, hp⟩ := fun K => by
          rw [seq_of (init48 _ _ tm1 hp)]
          exact i1' _
        rcases i2 with ⟨hw, rfl⟩ | ⟨hw, rfl, h2⟩
        · rw [seq_of (a := .seq q48 (.block 0 (.loop l48))) (st' := ⟨tm2, hp⟩) (fun K => blk K), last48, ret_of v48 2 hr (p := .v (.bool true)) rfl]
          simp only [atomL, hb, e1, hw, Bool.and_true]
        · rw [seq_ret (a := .seq q48 (.block 0 (.loop l48))) (st' := ⟨tm2, hp⟩) (fun K => blk K), ret_of v48 2 hr h2]
          simp only [atomL, hb, e1, hw, Bool.and_false]

theorem first61 (call : CallK PV) (rc : RC PV) (s : ByteArray) (hp : Hp) (K : Ex → St → Option PV) : evC tys v61 (hdC b61) call rc ⟨[(0, (.v (.string s))), (1, (.clo 62 [])), (2, (.clo 63 []))], hp⟩ K = K .normal ⟨[(6, .v (.bool false)), (0, (.v (.string s))), (1, (.clo 62 [])), (2, (.clo 63 []))], hp⟩ := by kernel_rfl
theorem init61 (call : CallK PV) (rc : RC PV) (tm : Tm) (hp : Hp) (K : Ex → St → Option PV) : evC tys v61 q61 call rc ⟨tm, hp⟩ K = K .normal ⟨(7, .v (.int .i64 (.ofNat 1))) :: tm, hp⟩ := by kernel_rfl
theorem last61 (call : CallK PV) (rc : RC PV) (tm : Tm) (hp : Hp) (K : Ex → St → Option PV) : evC tys v61 z61 call rc ⟨tm, hp⟩ K = K .ret ⟨(6, .v (.bool true)) :: tm, hp⟩ := by kernel_rfl
theorem name61 (O : Orc) (s : ByteArray) (hp : Hp) (K : Nx PV) : bodyF tys v61 (run tys fnsV O 100) [.v (.string s), .clo 62 [], .clo 63 []] hp K = K (.v (.bool (atomL s.data.toList))) hp := by
  have c62 : ∀ N n hp (K : Nx PV), callF tys fnsV O (run tys fnsV O (N + 1)) 62 [.v (.int .u8 n)] hp K = K (.v (.bool (lowB n))) hp := fun N n hp K => by rw [callF_of gV62 rfl]; exact runG62 fnsV O N n hp K
  have c63 : ∀ N n hp (K : Nx PV), callF tys fnsV O (run tys fnsV O (N + 2)) 63 [.v (.int .u8 n)] hp K = K (.v (.bool (wordB n))) hp := fun N n hp K => by rw [callF_of gV63 rfl]; exact runG63 gV62 gV64 O N n hp K
  rw [body_of b61_eq _ _ _ _ (by kernel_rfl)]
  have hr : v61.fn.results.toList = [.tmp 6] := by kernel_rfl
  show evC tys v61 _ (callF tys fnsV O (run tys fnsV O 99)) (run tys fnsV O 99) ⟨[(0, (.v (.string s))), (1, (.clo 62 [])), (2, (.clo 63 []))], hp⟩ _ = _
  rw [seq_of (first61 _ _ s hp)]
  generalize hL : s.data.toList = L
  cases L with
  | nil =>
    obtain ⟨tm', h1, h2⟩ := p61a _ (run tys fnsV O 99) (c62 98) s hp (by rw [hL]; rfl)
    rw [seq_ret h1, ret_of v61 6 hr h2]; rfl
  | cons c r =>
    have hlen : s.data.toList.length = r.length + 1 := by rw [hL]; rfl
    have hc : s.data.toList[0]? = some c := by rw [hL]; rfl
    have hd : s.data.toList.drop 1 = r := by rw [hL]; rfl
    cases hb : Nat.ble (r.length + 1) 16 with
    | false =>
      have : ¬ (r.length + 1 ≤ 16) := fun h => by rw [Nat.ble_eq_true_of_le h] at hb; cases hb
      obtain ⟨tm', h1, h2⟩ := p61b _ (run tys fnsV O 99) (c62 98) s hp (by omega)
      rw [seq_ret h1, ret_of v61 6 hr h2]
      simp only [atomL, hb, Bool.false_and]
    | true =>
      have h16 := Nat.le_of_ble_eq_true hb
      cases e1 : lowB c.toNat with
      | false =>
        obtain ⟨tm', h1, h2⟩ := p61c _ (run tys fnsV O 99) (c62 98) s hp c hc (by omega) e1
        rw [seq_ret h1, ret_of v61 6 hr h2]
        simp only [atomL, hb, e1, Bool.false_and, Bool.and_false]
      | true =>
        obtain ⟨tm1, h1, g0, g1, g2⟩ := p61d _ (run tys fnsV O 99) (c62 98) s hp c hc (by omega) e1
        rw [seq_of h1]
        obtain ⟨ex, tm2, i1, i2⟩ := loop61 (FT := fnsV) (O := O) hp s (by omega) c63 (97 - r.length) r.length 1 ((7, .v (.int .i64 (.ofNat 1))) :: tm1) (by omega) (g0) (g2) rfl
        have i1' : ∀ K : Ex → St → Option PV, evC tys v61 (.loop l61) (callF tys fnsV O (run tys fnsV O 99)) (run tys fnsV O 99) ⟨(7, .v (.int .i64 (.ofNat 1))) :: tm1, hp⟩ K = K ex ⟨tm2, hp⟩ := fun K => by
          have := i1 K
          rw [show 97 - r.length + r.length + 3 = 100 by omega] at this
          exact this
        rw [hd] at i2
        have blk : ∀ K : Ex → St → Option PV, evC tys v61 (.seq q61 (.block 0 (.loop l61))) (callF tys fnsV O (run tys fnsV O 99)) (run tys fnsV O 99) ⟨tm1, hp⟩ K = blockK 0 K ex ⟨tm2, hp⟩ := fun K => by
          rw [seq_of (init61 _ _ tm1 hp)]
          exact i1' _
        rcases i2 with ⟨hw, rfl⟩ | ⟨hw, rfl, h2⟩
        · rw [seq_of (a := .seq q61 (.block 0 (.loop l61))) (st' := ⟨tm2, hp⟩) (fun K => blk K), last61, ret_of v61 6 hr (p := .v (.bool true)) rfl]
          simp only [atomL, hb, e1, hw, Bool.and_true]
        · rw [seq_ret (a := .seq q61 (.block 0 (.loop l61))) (st' := ⟨tm2, hp⟩) (fun K => blk K), ret_of v61 6 hr h2]
          simp only [atomL, hb, e1, hw, Bool.and_false]

/-- a run that ends for whatever follows makes an answer known -/
theorem known_run {FT : Fns} {O : Orc} (hF : FTOk Tryz.prog FT) (hO : OrcOk Tryz.prog O) {f : Nat} {fi : FI} (hf : FIOk Tryz.prog f fi) (n : Nat) {ds : List PV} {b : Bool} {hh : Hp}
    (h : ∀ k : Nx PV, bodyF tys fi (run tys FT O n) ds ⟨[], 0⟩ k = k (.v (.bool b)) hh) : Known Tryz.prog f ds (.v (.bool b)) := by
  have hr := run_sound (R := PV) (.un : PV) tOk (drawSound (R := PV) .un tOk mixed) hF hO n
  obtain ⟨h1, h2⟩ := bodyF_sound' (.un : PV) tOk (run_uni FT O n) hr hf h
  refine ⟨h1, fun w F args hF1 hv => Calls.mono (h2 w F noMap args (HS.empty 0 hF1) hv) ?_⟩
  rintro e w' ⟨v, F', M', rfl, k1, k2, k3⟩
  refine ⟨v, F', rfl, ?_, k2.fw, ⟨k3.os, k3.tape, k3.output, k3.size, k3.keep, k3.cell, fun _ _ h => h, k3.mF, fun _ _ h => .inl h, k3.newF⟩⟩
  cases k1 with
  | v hx => exact .v hx
theorem noBook : OrcOk Tryz.prog (fun _ _ => none) := fun _ _ _ h => by cases h
theorem known48 (s : ByteArray) : Known Tryz.prog 48 [.v (.string s)] (.v (.bool (atomL s.data.toList))) := known_run fnsVok noBook v48ok 100 (name48 _ s ⟨[], 0⟩)
theorem run46 (rc : RC PV) (call : CallK PV) (s : ByteArray) (b : Bool) (hp : Hp) (K : Nx PV) (h : ∀ hp (k : Nx PV), call 61 [.v (.string s), .clo 62 [], .clo 63 []] hp k = k (.v (.bool b)) hp) :
    bodyF tys v46 (fun fi c => evC tys fi c call rc) [.v (.string s)] hp K = K (.v (.bool b)) hp := by
  simp only [v46, Tryz.f46, h, bodyF, evC, evOps, evStep, dstOk, wantedP, prim, primBuiltin, enters, entersOf, evDo, opd, opds, consO, flat, putT, primBin, bin, intOp, intBin, ileb_eq, ieqb_eq, primUn, una, ret1, Al.get, wantOf, dstAt, primPick, kept, seqK, blockK, endK, resOf, resVars, resVar, initT, Tr.get, beq_d, blt_d, ble_d, bff, bft, btf, btt, List.length_cons, List.length_nil, Nat.reduceAdd, Nat.reduceLeDiff, Nat.reduceLT, decide_true, decide_false, Bool.and_true, Bool.and_false, Nat.reduceEqDiff, Bool.false_and, Bool.true_and, Bool.or_true, Bool.or_false, Bool.true_or, Bool.false_or, List.toList_toArray, reduceCtorEq, List.getElem?_cons_succ, List.getElem?_cons_zero, Option.some.injEq, Bool.not_true, Bool.not_false, List.append_nil, List.nil_append, List.cons_append]
theorem known46 (s : ByteArray) : Known Tryz.prog 46 [.v (.string s)] (.v (.bool (atomL s.data.toList))) := by
  refine known_run (O := fun _ _ => none) fnsVok noBook v46ok 101 (hh := ⟨[], 0⟩) fun k => ?_
  refine run46 (run tys fnsV _ 100) (callF tys fnsV _ (run tys fnsV _ 100)) s _ ⟨[], 0⟩ k fun hp k => ?_
  rw [callF_of gV61 rfl]
  exact name61 _ s hp k
end Go.Ev

/- Keys: what the law asks of the two questions whether a key is valid. -/
namespace Go.Ev
open Go.Proofs
variable [Env]
theorem Known.arg {f : Nat} {p p' q : PV} (h : Known Tryz.prog f [p'] q) (hp : ∀ (w : World) (F : Fz) (v : Value), VR w F noMap p v → VR w F noMap p' v) : Known Tryz.prog f [p] q :=
  ⟨h.1, fun w F args hF hv => h.2 w F args hF ⟨hv.1, fun i c y hc hy => by
    match i with
    | 0 =>
      simp at hc; subst hc
      exact hp w F y (hv.2 0 p y rfl hy)
    | i + 1 => simp at hc⟩⟩
theorem agg2_to {a b a' b' : PV} (ca : cellOk a' = true) (cb : cellOk b' = true) (ha : ∀ (w : World) (F : Fz) (v : Value), VR w F noMap a v → VR w F noMap a' v) (hb : ∀ (w : World) (F : Fz) (v : Value), VR w F noMap b v → VR w F noMap b' v)
    (w : World) (F : Fz) (v : Value) (h : VR w F noMap (.agg [a, b]) v) : VR w F noMap (.agg [a', b']) v := by
  cases h with
  | agg h1 h2 h3 =>
    rename_i ys
    refine .agg (by simpa using h1) (fun i c hc => ?_) (fun i c y hc hy => ?_)
    · match i with
      | 0 => simp at hc; subst hc; exact ca
      | 1 => simp at hc; subst hc; exact cb
      | i + 2 => simp at hc
    · match i with
      | 0 => simp at hc; subst hc; exact ha w F y (h3 0 a y rfl hy)
      | 1 => simp at hc; subst hc; exact hb w F y (h3 1 b y rfl hy)
      | i + 2 => simp at hc
theorem sym_str (w : World) (F : Fz) (v : Value) (h : VR w F noMap (.sym 0) v) : VR w F noMap (.v (.string (Env.str 0))) v := by
  cases h
  exact .v rfl
theorem sym_int {z : Int} (hz : Env.int 1 = z) (w : World) (F : Fz) (v : Value) (h : VR w F noMap (.sym 1) v) : VR w F noMap (.v (.int .i64 z)) v := by
  cases h
  subst hz
  exact .v rfl
theorem same (p : PV) (w : World) (F : Fz) (v : Value) (h : VR w F noMap p v) : VR w F noMap p v := h
theorem lfOk : FTOk Tryz.prog (.lf : Fns) := fun _ _ h => by cases h
theorem ask46 : Known Tryz.prog 46 [.sym 0] (.v (.bool (atomL (Env.str 0).data.toList))) := (known46 _).arg sym_str
theorem ask48 : Known Tryz.prog 48 [.sym 0] (.v (.bool (atomL (Env.str 0).data.toList))) := (known48 _).arg sym_str
theorem k31_0 (b : Bool) (h : atomL (Env.str 0).data.toList = b) : Known Tryz.prog 31 [.agg [i 0, .sym 0]] (.v (.bool b)) := by
  have h46 := ask46
  rw [h] at h46
  cases b
  · exact known_ofF tOk mixed lfOk (B := [(46, [([.sym 0], .v (.bool false))])]) ⟨⟨h46, trivial⟩, trivial⟩ v31ok (n := 1000) (by kernel_rfl)
  · exact known_ofF tOk mixed lfOk (B := [(46, [([.sym 0], .v (.bool true))])]) ⟨⟨h46, trivial⟩, trivial⟩ v31ok (n := 1000) (by kernel_rfl)
theorem k33_0 (b : Bool) (h : atomL (Env.str 0).data.toList = b) : Known Tryz.prog 33 [.agg [i 0, .sym 0]] (.v (.bool b)) := by
  have h48 := ask48
  rw [h] at h48
  cases b
  · exact known_ofF tOk mixed lfOk (B := [(48, [([.sym 0], .v (.bool false))])]) ⟨⟨h48, trivial⟩, trivial⟩ v33ok (n := 1000) (by kernel_rfl)
  · exact known_ofF tOk mixed lfOk (B := [(48, [([.sym 0], .v (.bool true))])]) ⟨⟨h48, trivial⟩, trivial⟩ v33ok (n := 1000) (by kernel_rfl)
theorem k31_1 (s : ByteArray) : Known Tryz.prog 31 [.agg [i 1, .v (.string s)]] (.v (.bool (Nat.ble s.data.toList.length 64))) :=
  known_run (O := fun _ _ => none) lfOk noBook v31ok 100 (hh := ⟨[(0, ⟨[i 1, .v (.string s)], 2, false, 0⟩)], 1⟩) fun k => by kernel_rfl
theorem k33_1 (s : ByteArray) : Known Tryz.prog 33 [.agg [i 1, .v (.string s)]] (.v (.bool (Nat.ble s.data.toList.length 64))) :=
  known_run (O := fun _ _ => none) lfOk noBook v33ok 100 (hh := ⟨[(0, ⟨[i 1, .v (.string s)], 2, false, 0⟩)], 1⟩) fun k => by kernel_rfl
theorem k31_n (m : Nat) (s : ByteArray) : Known Tryz.prog 31 [.agg [.v (.int .i64 (.negSucc m)), .v (.string s)]] (.v (.bool false)) :=
  known_run (O := fun _ _ => none) lfOk noBook v31ok 100 (hh := ⟨[(0, ⟨[.v (.int .i64 (.negSucc m)), .v (.string s)], 2, false, 0⟩)], 1⟩) fun k => by kernel_rfl
theorem k33_n (m : Nat) (s : ByteArray) : Known Tryz.prog 33 [.agg [.v (.int .i64 (.negSucc m)), .v (.string s)]] (.v (.bool false)) :=
  known_run (O := fun _ _ => none) lfOk noBook v33ok 100 (hh := ⟨[(0, ⟨[.v (.int .i64 (.negSucc m)), .v (.string s)], 2, false, 0⟩)], 1⟩) fun k => by kernel_rfl
theorem k31_p (m : Nat) (s : ByteArray) : Known Tryz.prog 31 [.agg [.v (.int .i64 (.ofNat (m + 2))), .v (.string s)]] (.v (.bool false)) :=
  known_run (O := fun _ _ => none) lfOk noBook v31ok 100 (hh := ⟨[(0, ⟨[.v (.int .i64 (.ofNat (m + 2))), .v (.string s)], 2, false, 0⟩)], 1⟩) fun k => by kernel_rfl
theorem k33_p (m : Nat) (s : ByteArray) : Known Tryz.prog 33 [.agg [.v (.int .i64 (.ofNat (m + 2))), .v (.string s)]] (.v (.bool false)) :=
  known_run (O := fun _ _ => none) lfOk noBook v33ok 100 (hh := ⟨[(0, ⟨[.v (.int .i64 (.ofNat (m + 2))), .v (.string s)], 2, false, 0⟩)], 1⟩) fun k => by kernel_rfl

/-- the three kinds of keys -/
theorem keys : (Env.int 1 = 0 ∧ KV0) ∨ (Env.int 1 = 1 ∧ KV1) ∨ KV2 := by
  have lens := fun (p : PV) (hp : ∀ (w : World) (F : Fz) (v : Value), VR w F noMap (.sym 1) v → VR w F noMap p v) (hc : cellOk p = true) => agg2_to hc (b' := .v (.string (Env.str 0))) rfl hp sym_str
  cases hz : (Env.int 1 : Int) with
  | negSucc m => exact .inr (.inr ⟨(k31_n m _).arg (lens _ (sym_int hz) rfl), (k33_n m _).arg (lens _ (sym_int hz) rfl)⟩)
  | ofNat n =>
    match n, hz with
    | 0, hz =>
      cases hb : atomL (Env.str 0).data.toList with
      | true => exact .inl ⟨rfl, k31_0 true hb, k33_0 true hb⟩
      | false => exact .inr (.inr ⟨(k31_0 false hb).arg (agg2_to rfl rfl (sym_int hz) (same _)), (k33_0 false hb).arg (agg2_to rfl rfl (sym_int hz) (same _))⟩)
    | 1, hz =>
      cases hb : Nat.ble (Env.str 0).data.toList.length 64 with
      | true =>
        refine .inr (.inl ⟨rfl, ?_, ?_⟩)
        · have := k31_1 (Env.str 0); rw [hb] at this
          exact this.arg (agg2_to rfl rfl (same _) sym_str)
        · have := k33_1 (Env.str 0); rw [hb] at this
          exact this.arg (agg2_to rfl rfl (same _) sym_str)
      | false =>
        refine .inr (.inr ⟨?_, ?_⟩)
        · have := k31_1 (Env.str 0); rw [hb] at this
          exact this.arg (agg2_to rfl rfl (sym_int hz) sym_str)
        · have := k33_1 (Env.str 0); rw [hb] at this
          exact this.arg (agg2_to rfl rfl (sym_int hz) sym_str)
    | m + 2, hz => exact .inr (.inr ⟨(k31_p m _).arg (lens _ (sym_int hz) rfl), (k33_p m _).arg (lens _ (sym_int hz) rfl)⟩)
end Go.Ev
