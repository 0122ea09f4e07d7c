/- The text generator's trees: their leaves' runs, by the kernel. -/
import Derived.Test.YtmlnfoabpcccnaaGreatEvCj
import Derived.Test.YtmlnfoabpcccnaaGreatEvCf
set_option linter.all false
namespace Go.Ev.A
open Go.Proofs
noncomputable def fns68 : Fns := .nd .lf none (.nd (.nd .lf none (.nd (.nd (.nd (.nd .lf (some e68) .lf) none .lf) none .lf) none .lf)) none .lf)
theorem fns68Ok [Env] : FTOk Tryz.prog fns68 := .of ⟨trivial, trivial, trivial, ⟨trivial, trivial, trivial, ⟨trivial, ⟨trivial, ⟨e68ok, trivial, trivial⟩, trivial⟩, trivial⟩, trivial⟩, trivial⟩
theorem fns68_get : fns68.get 68 = some e68 := rfl
noncomputable def runT (fi : FI) (FT : Fns) (ds : List PV) (l : Lf) : Bool := goesF ⟨tysT, askL l.os⟩ FT (orcL l.cs) 10000 fi 45 (Kc 1 2) ds l.q (Kc l.a l.m)
noncomputable def φT (fi : FI) (ds : List PV) (x y h nx ny : Nat) (l : Lf) : Bool := runT fi fns ds l && (resB l.Γ x y h l.q l.t && (numB l.Γ nx ny l.m && isAt l.Γ l.a))
noncomputable def φS (l : Lf) : Bool := runT e67 fns68 [] l && (txtIn l.q (smalls.map fun s => S s.1) && (Nat.beq l.m 2 && isAt l.Γ l.a))
def avl (l : List Nat) (f : Nat) : Bool := l.any (Nat.beq f)
theorem smallOk : allL φS (avl [14]) 7 w_small 50 ctx0 [] [] = true := by kernel_rfl
theorem leafOk : allL (φT e29 [.unk 4, .unk 5] 40 0 3 1 0) (avl [14, 65, 66, 67, 32]) 7 w_leaf 50 ctx0 [] [] = true := by kernel_rfl
theorem expr0Ok : allL (φT e13 [.unk 4, I 0, .unk 5] 40 0 3 1 0) (avl [14, 29]) 7 w_expr0 50 ctx0 [] [] = true := by kernel_rfl
noncomputable def φD (k : Nat) (l : Lf) : Bool := goesD ⟨tysT, askL l.os⟩ fns (orcL l.cs) 10000 e65 [envP k, .unk 4] l.q && match l.q with
  | .v (.slice none 0 0) => true
  | .sl [] _ => false
  | .sl es false => Nat.ble es.length 7 && es.all fun e => match e with
    | [.unk k] => match ty l.Γ k with
      | some .var => true
      | _ => false
    | _ => false
  | _ => false
theorem of4Ok : allL (φD 4) (avl []) 4 w_of4 50 (ctxE 4) [] [] = true := by kernel_rfl
theorem of5Ok : allL (φD 5) (avl []) 5 w_of5 50 (ctxE 5) [] [] = true := by kernel_rfl
theorem of6Ok : allL (φD 6) (avl []) 6 w_of6 50 (ctxE 6) [] [] = true := by kernel_rfl
theorem of7Ok : allL (φD 7) (avl []) 7 w_of7 50 (ctxE 7) [] [] = true := by kernel_rfl
noncomputable def okAtom (i : Nat) : Bool := goesF ⟨tysT, noAsk⟩ fns (orcL [(14, keyS 1 [I 4], .tup [I i, .tup (Sc 2)])]) 10000 e66 67 (Sc 1) [] (pickV 66 i) (Sc 2)
theorem atomOk : allN 4 okAtom = true := by kernel_rfl
/-- the m-th fresh variable -/
def vtxt (m : Nat) : List Nat := varTxts.getD (m + 3) []
noncomputable def okFresh (m : Nat) : Bool := goesF ⟨tysT, noAsk⟩ fns68 (fun _ _ => none) 10000 e32 45 [.tup (.mp 67 :: Sc 1), NL, I 7, Bo true, I m] [] (S (vtxt (m + 1))) [.tup (.mp 67 :: Sc 1), NL, I 7, Bo true, I (m + 1)]
theorem freshOk : allN 40 okFresh = true := by kernel_rfl
end Go.Ev.A
