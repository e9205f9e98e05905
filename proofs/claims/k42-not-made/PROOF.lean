import PyProof.Rows.All
import Wide.All
import OpenK.AllK
import Wide.FinOn
import HandS.ForMost
import HandS.IsInst
import HandS.WideBits
import HandS.Wide
import HandS.EndBits
import HandS.Evl
import HandS.More
import HandS.DictComp
import HandS.RevRange
import HandS.DeepEq
import HandS.ListEq
import HandS.Deep
import HandS.ForExc
import HandS.ExcIs
import HandS.RaiseMore
import KE.GoesEnum
import HandS.Defaults
import HandS.MakeKw
import PySem.Challenge.RW_dotpress_k42_what_is_not_made
set_option Elab.async false
set_option linter.all false
set_option maxRecDepth 100000
set_option maxHeartbeats 4000000


namespace Dpr
open PySem PySem.Spec PyProof.Rows L2
/-! ### steps of a reading, one a construct -/
section
variable {K : PySem.W.Frag} {D : Ends} {σ : L2.St} {H : Hp} {Q : VK} {QB : Bool → Hp → Prop} {QA : List V → Hp → Prop} {ta tb tc te : TE} {t u : TS} {c : TT} {g : TG} {r r' : R2} {v x y : V}
theorem w_seq (h : t { D with nx := u D } σ H) : tSeq t u D σ H := h
theorem w_cut (M : L2.St → Hp → Prop) (h : t { D with nx := M } σ H) (k : ∀ σ' H', M σ' H' → u D σ' H') : Evl.tCut t u D σ H := ⟨M, h, k⟩
theorem w_asg {i : Nat} (h : te σ H fun v H1 => D.nx (σ.set i (some v)) H1) : tAsg te (gName i) D σ H := h
theorem w_asgG (h : te σ H fun v H1 => g v σ H1 D.nx) : tAsg te g D σ H := h
theorem w_drop (h : te σ H fun _ H1 => D.nx σ H1) : tDrop te D σ H := h
theorem w_ret (h : te σ H D.rt) : tRet te D σ H := h
theorem w_retN (h : D.rt .non H) : tRetN D σ H := h
theorem w_next (h : D.nx σ H) : tNext D σ H := h
theorem w_cont (h : D.ct σ H) : tCont D σ H := h
theorem w_brk (h : D.bk σ H) : tBreak D σ H := h
theorem w_if (h : c σ H fun b H1 => if b = true then t D σ H1 else u D σ H1) : tIfS c t u D σ H := h
theorem w_aug {i : Nat} {ti : TIp} (hx : σ[i]? = some (some x)) (h : te σ H fun y H1 => ti x y H1 fun z H2 => D.nx (σ.set i (some z)) H2) : tAug i te ti D σ H := ⟨x, hx, h⟩
theorem w_ipI {f : Int → Int → Int} {i j : Int} (h : Q (.int (f i j)) H) : ipI f (.int i) (.int j) H Q := ⟨i, j, rfl, rfl, h⟩
theorem w_var {i : Nat} (hx : σ[i]? = some (some v)) (h : Q v H) : tVar i σ H Q := ⟨v, hx, h⟩
theorem w_c (h : Q v H) : tC v σ H Q := h
theorem w_op (h : ta σ H fun x H1 => tb σ H1 fun y H2 => r x y H2 Q) : tOp r ta tb σ H Q := h
theorem w_un {f : V → Hp → VK → Prop} (h : ta σ H fun x H1 => f x H1 Q) : tUn f ta σ H Q := h
theorem w_chain (h : ta σ H fun x H1 => tb σ H1 fun y H2 => r x y H2 fun z H3 => ∃ k, z = .bl k ∧ (if k = true then tc σ H3 fun w' H4 => r' y w' H4 Q else Q (.bl false) H3)) : tChain r r' ta tb tc σ H Q := h
theorem w_test (h : te σ H fun x H1 => ∃ k, x = .bl k ∧ QB k H1) : tTest te σ H QB := h
theorem w_tB (h : te σ H fun x H1 => ∃ k, x = .bl k ∧ QB k H1) : tB te σ H QB := h
theorem w_bl {b : Bool} {P : Bool → Prop} (h : P b) : ∃ k, V.bl b = .bl k ∧ P k := ⟨b, rfl, h⟩
theorem w_and {t u : TT} (h : t σ H fun c H1 => if c = true then u σ H1 QB else QB false H1) : tAnd t u σ H QB := h
theorem w_or {t u : TT} (h : t σ H fun c H1 => if c = true then QB true H1 else u σ H1 QB) : tOr t u σ H QB := h
theorem w_not {t : TT} (h : t σ H fun c H1 => QB (!c) H1) : tNot t σ H QB := h
theorem w_andV (h : ta σ H fun x H1 => ∃ c, x = .bl c ∧ if c = true then tb σ H1 Q else Q (.bl false) H1) : tAndV ta tb σ H Q := h
theorem w_orV (h : ta σ H fun x H1 => ∃ c, x = .bl c ∧ if c = true then Q (.bl true) H1 else tb σ H1 Q) : tOrV ta tb σ H Q := h
theorem w_notV (h : ta σ H fun x H1 => ∃ c, x = .bl c ∧ Q (.bl (!c)) H1) : tNotV ta σ H Q := h
theorem w_ifx {t : TT} (h : t σ H fun c H1 => if c = true then ta σ H1 Q else tb σ H1 Q) : tIf t ta tb σ H Q := h
theorem w_nil (h : QA [] H) : tNil σ H QA := h
theorem w_cons {tr : TA} (h : ta σ H fun x H1 => tr σ H1 fun xs H2 => QA (x :: xs) H2) : tCons ta tr σ H QA := h
/-- a new tuple, a new list: the heap is a letter -/
def AlT (xs : List V) (H : Hp) (Q : VK) : Prop := xs.length ≤ sizeLine ∧ ∀ p, H p = none → Q (.ref p) (upd H p (.tup xs))
def AlL (xs : List V) (H : Hp) (Q : VK) : Prop := xs.length ≤ sizeLine ∧ ∀ p, H p = none → Q (.ref p) (upd H p (.lst xs))
theorem same_upd {H : Hp} {p : Addr} {o : HO} (h : H p = none) : Same H (upd H p o) := fun b x e => by
  rw [upd_ne (ne_of_none e h)]
  exact e
theorem w_tup {s : TA} (h : s σ H fun xs H1 => AlT xs H1 Q) : tTup s σ H Q := h
theorem w_lst {s : TA} (h : s σ H fun xs H1 => AlL xs H1 Q) : tLst s σ H Q := h
theorem sz_le {n : Nat} (h : Nat.ble n 1000 = true) : n ≤ sizeLine := Nat.le_trans (Nat.le_of_ble_eq_true h) (by rw [sizeLine_eq]; decide)
theorem w_alT {xs : List V} (hl : xs.length ≤ sizeLine) (h : ∀ p H', H p = none → Same H H' → H' p = some (.tup xs) → Q (.ref p) H') : AlT xs H Q := ⟨hl, fun p hp => h p _ hp (same_upd hp) upd_same⟩
theorem w_alL {xs : List V} (hl : xs.length ≤ sizeLine) (h : ∀ p H', H p = none → Same H H' → H' p = some (.lst xs) → Q (.ref p) H') : AlL xs H Q := ⟨hl, fun p hp => h p _ hp (same_upd hp) upd_same⟩
theorem w_call {sp : Sp} {dvs : List V} {E : XK} {s : TA} (h : s σ H fun vs H1 => sp (vs ++ dvs) H1 Q E) : tCall sp dvs E s σ H Q := h
theorem w_cb {f : List V → Hp → VK → Prop} {s : TA} (h : s σ H fun vs H1 => f vs H1 Q) : tCB f s σ H Q := h
theorem w_I0 {f : Int → Int → V} {i j : Int} (h : Q (f i j) H) : rI0 f (.int i) (.int j) H Q := ⟨i, j, rfl, rfl, h⟩
theorem w_I {C : Int → Int → Prop} {f : Int → Int → V} {i j : Int} (hc : C i j) (h : Q (f i j) H) : rI C f (.int i) (.int j) H Q := ⟨i, j, rfl, rfl, hc, h⟩
theorem w_U {f : Int → V} {i : Int} (h : Q (f i) H) : rU f (.int i) H Q := ⟨i, rfl, h⟩
theorem w_eq (hs : scal x y = true) (h : Q (.bl (decide (x = y))) H) : rEq x y H Q := ⟨hs, h⟩
theorem w_ne (hs : scal x y = true) (h : Q (.bl (!decide (x = y))) H) : rNe x y H Q := ⟨hs, h⟩
theorem w_bits {i : Int} (h : Q (.int (Builtin.Int.intBits i : Nat)) H) : (∃ j, V.int i = .int j ∧ Q (.int (Builtin.Int.intBits j : Nat)) H) := ⟨i, rfl, h⟩
theorem w_tbits (h : te σ H fun x H1 => ∃ i, x = .int i ∧ Q (.int (Builtin.Int.intBits i : Nat)) H1) : tBits te σ H Q := h
theorem w_ixL {p : Addr} {xs : List V} {i : Int} (hl : SqL K H p xs) (ha : atI xs i = some v) (h : Q v H) : rIxL K (.ref p) (.int i) H Q := ⟨p, xs, i, v, rfl, rfl, hl, ha, h⟩
theorem w_ixT {p : Addr} {xs : List V} {i : Int} (hl : SqT K H p xs) (ha : atI xs i = some v) (h : Q v H) : rIxT K (.ref p) (.int i) H Q := ⟨p, xs, i, v, rfl, rfl, hl, ha, h⟩
/-! tests -/
theorem w_itT {A B : Prop} (h : A) : if true = true then A else B := by rw [if_pos rfl]; exact h
theorem w_itF {A B : Prop} (h : B) : if false = true then A else B := by rw [if_neg Bool.false_ne_true]; exact h
theorem w_itC {b : Bool} {A B : Prop} (e : b = true) (h : A) : if b = true then A else B := by rw [if_pos e]; exact h
theorem w_itD {b : Bool} {A B : Prop} (e : b = false) (h : B) : if b = true then A else B := by rw [e, if_neg Bool.false_ne_true]; exact h
theorem w_itI {i j : Int} {A B : Prop} (h1 : i = j → A) (h2 : i ≠ j → B) : if decide (V.int i = V.int j) = true then A else B := by
  by_cases e : i = j
  · rw [if_pos (by rw [e]; exact decide_eq_true rfl)]; exact h1 e
  · rw [if_neg (fun z => e (V.int.inj (of_decide_eq_true z)))]; exact h2 e
theorem w_itN {i j : Int} {A B : Prop} (h1 : i ≠ j → A) (h2 : i = j → B) : if (!decide (V.int i = V.int j)) = true then A else B := by
  by_cases e : i = j
  · rw [e, decide_eq_true rfl]; exact w_itF (h2 e)
  · rw [decide_eq_false (fun z => e (V.int.inj z))]; exact w_itT (h1 e)
theorem w_itd {p A B : Prop} [Decidable p] (h1 : p → A) (h2 : ¬ p → B) : if decide p = true then A else B := by
  by_cases e : p
  · rw [if_pos (decide_eq_true e)]; exact h1 e
  · rw [if_neg (fun z => e (of_decide_eq_true z))]; exact h2 e
theorem w_itn {p A B : Prop} [Decidable p] (h1 : ¬ p → A) (h2 : p → B) : if (!decide p) = true then A else B := by
  by_cases e : p
  · rw [decide_eq_true e]; exact w_itF (h2 e)
  · rw [decide_eq_false e]; exact w_itT (h1 e)
theorem w_itb {b : Bool} {A B : Prop} (h1 : b = true → A) (h2 : b = false → B) : if b = true then A else B := by
  cases b with
  | true => exact w_itT (h1 rfl)
  | false => exact w_itF (h2 rfl)
end
/-! calls of built-ins, by names of our own -/
def rLen (K : PySem.W.Frag) : List V → Hp → VK → Prop := fun xs H Q => ∃ p ys, xs = [.ref p] ∧ (SqL K H p ys ∨ SqT K H p ys) ∧ Q (.int ys.length) H
theorem c_len {X : Cx} : CallR X (.builtin "len") (rLen X.K) := call_len_seq
theorem w_lenL {K : PySem.W.Frag} {H : Hp} {Q : VK} {p : Addr} {xs : List V} (h : SqL K H p xs) (q : Q (.int (xs.length : Int)) H) : rLen K [.ref p] H Q := ⟨p, xs, rfl, .inl h, q⟩
theorem w_lenT {K : PySem.W.Frag} {H : Hp} {Q : VK} {p : Addr} {xs : List V} (h : SqT K H p xs) (q : Q (.int (xs.length : Int)) H) : rLen K [.ref p] H Q := ⟨p, xs, rfl, .inr h, q⟩
def rAbs : List V → Hp → VK → Prop := fun xs H Q => ∃ i, xs = [.int i] ∧ Q (.int (if i < 0 then -i else i)) H
theorem c_abs {X : Cx} : CallR X (.builtin "abs") rAbs := call_abs
theorem w_abs {H : Hp} {Q : VK} {i : Int} (q : Q (.int (if i < 0 then -i else i)) H) : rAbs [.int i] H Q := ⟨i, rfl, q⟩
def rMax2 : List V → Hp → VK → Prop := fun xs H Q => ∃ i j, xs = [.int i, .int j] ∧ Q (.int (if j > i then j else i)) H
def rMin2 : List V → Hp → VK → Prop := fun xs H Q => ∃ i j, xs = [.int i, .int j] ∧ Q (.int (if j < i then j else i)) H
theorem c_max2 {X : Cx} (hc : X.calm = true) : CallR X (.builtin "max") rMax2 := call_max2 hc
theorem c_min2 {X : Cx} (hc : X.calm = true) : CallR X (.builtin "min") rMin2 := call_min2 hc
theorem w_max2 {H : Hp} {Q : VK} {i j : Int} (q : Q (.int (if j > i then j else i)) H) : rMax2 [.int i, .int j] H Q := ⟨i, j, rfl, q⟩
theorem w_min2 {H : Hp} {Q : VK} {i j : Int} (q : Q (.int (if j < i then j else i)) H) : rMin2 [.int i, .int j] H Q := ⟨i, j, rfl, q⟩
def rListOf (K : PySem.W.Frag) : List V → Hp → VK → Prop := fun xs H Q => ∃ p ys, xs = [.ref p] ∧ (SqL K H p ys ∨ SqT K H p ys) ∧ ∀ l, H l = none → Q (.ref l) (upd H l (.lst ys))
theorem c_list {X : Cx} : CallR X (.type "list") (rListOf X.K) := call_list_of
theorem w_listL {K : PySem.W.Frag} {H : Hp} {Q : VK} {p : Addr} {xs : List V} (h : SqL K H p xs) (q : ∀ l H', H l = none → Same H H' → H' l = some (.lst xs) → Q (.ref l) H') : rListOf K [.ref p] H Q := ⟨p, xs, rfl, .inl h, fun l hl => q l _ hl (same_upd hl) upd_same⟩
theorem w_listT {K : PySem.W.Frag} {H : Hp} {Q : VK} {p : Addr} {xs : List V} (h : SqT K H p xs) (q : ∀ l H', H l = none → Same H H' → H' l = some (.lst xs) → Q (.ref l) H') : rListOf K [.ref p] H Q := ⟨p, xs, rfl, .inr h, fun l hl => q l _ hl (same_upd hl) upd_same⟩
/-- a product of two ints of any size that the model allows -/
theorem op_mulI {X : Cx} : OpR X (binaryOp .Mult) (rI IntMulOk fun i j => .int (i * j)) := opI fun _ _ _ _ _ _ _ hc q => mul_int q hc
/-- isinstance, the answer told -/
theorem w_isi {K : PySem.W.Frag} {H : Hp} {Q : VK} {x : V} {t : Value} {n : String} {b : Bool} (ty : TyX K H x t) (e : PySem.W.kitOne K t (.type n) = some b) (q : Q (.bl b) H) : rIsi K [x, .ty n] H Q := ⟨x, .ty n, t, _, b, rfl, .ty n, ty, e, q⟩
theorem kit_ii (K : PySem.W.Frag) : PySem.W.kitOne K (.type "int") (.type "int") = some true := kit_ty (by decide +kernel)
theorem kit_ib (K : PySem.W.Frag) : PySem.W.kitOne K (.type "int") (.type "bool") = some false := kit_ty (by decide +kernel)
theorem kit_bi (K : PySem.W.Frag) : PySem.W.kitOne K (.type "bool") (.type "int") = some true := kit_ty (by decide +kernel)
theorem kit_bb (K : PySem.W.Frag) : PySem.W.kitOne K (.type "bool") (.type "bool") = some true := kit_ty (by decide +kernel)
theorem kit_ll (K : PySem.W.Frag) : PySem.W.kitOne K (.type "list") (.type "list") = some true := kit_ty (by decide +kernel)
theorem kit_tt (K : PySem.W.Frag) : PySem.W.kitOne K (.type "tuple") (.type "tuple") = some true := kit_ty (by decide +kernel)
theorem kit_ss (K : PySem.W.Frag) : PySem.W.kitOne K (.type "str") (.type "str") = some true := kit_ty (by decide +kernel)
theorem w_isiT {K : PySem.W.Frag} {H : Hp} {Q : VK} {p : Addr} {xs : List V} (e : H p = some (.tup xs)) (q : Q (.bl true) H) : rIsi K [.ref p, .ty "tuple"] H Q := w_isi (TyX.base (TyOf.tup e)) (kit_tt K) q
theorem w_isiL {K : PySem.W.Frag} {H : Hp} {Q : VK} {p : Addr} {xs : List V} (e : H p = some (.lst xs)) (q : Q (.bl true) H) : rIsi K [.ref p, .ty "list"] H Q := w_isi (TyX.base (TyOf.lst e)) (kit_ll K) q
theorem kit_tl (K : PySem.W.Frag) : PySem.W.kitOne K (.type "tuple") (.type "list") = some false := kit_ty (by decide +kernel)
theorem kit_lt (K : PySem.W.Frag) : PySem.W.kitOne K (.type "list") (.type "tuple") = some false := kit_ty (by decide +kernel)
/-! slices and sums of lists -/
section
variable {K : PySem.W.Frag} {σ : L2.St} {H : Hp} {Q : VK} {te : TE} {tl th : TO} {QO : Option Int → Hp → Prop}
theorem w_tsl {f : V → Option Int → Option Int → Hp → VK → Prop} (h : te σ H fun x H1 => tl σ H1 fun l H2 => th σ H2 fun u H3 => f x l u H3 Q) : tSl f te tl th σ H Q := h
theorem w_tnp (h : QO none H) : tNoPart σ H QO := h
theorem w_tpt (h : te σ H fun x H1 => ∃ i, x = .int i ∧ QO (some i) H1) : tPart te σ H QO := h
theorem w_pt {i : Int} {P : Int → Prop} (h : P i) : ∃ j, V.int i = .int j ∧ P j := ⟨i, rfl, h⟩
theorem w_sl {p : Addr} {xs : List V} {lo hi : Option Int} (h : SqL K H p xs) (q : ∀ l H', H l = none → Same H H' → H' l = some (.lst (cutV xs lo hi)) → Q (.ref l) H') : rSlL K (.ref p) lo hi H Q :=
  ⟨p, xs, rfl, h, fun l hl => q l _ hl (same_upd hl) upd_same⟩
theorem w_cat {p b : Addr} {xs ys : List V} (h1 : H p = some (.lst xs)) (h2 : H b = some (.lst ys)) (hz : xs.length + ys.length ≤ 16000000) (q : ∀ l H', H l = none → Same H H' → H' l = some (.lst (xs ++ ys)) → Q (.ref l) H') : rCat (.ref p) (.ref b) H Q :=
  ⟨p, b, xs, ys, rfl, rfl, h1, h2, Nat.le_trans hz (by rw [sizeLine_eq]; decide), fun l hl => q l _ hl (same_upd hl) upd_same⟩
end
/-! heaps that grow -/
theorem same_at {H H' : Hp} {b : Addr} {o : HO} (s : Same H H') (h : H b = some o) : H' b = some o := s b o h
theorem same_tup {K : PySem.W.Frag} {H H' : Hp} {a : Addr} {xs : List V} (e : Same H H') (h : SqT K H a xs) : SqT K H' a xs := by
  rcases h with (h | ⟨o, h⟩) | h
  · exact .inl (.inl (e _ _ h))
  · exact .inl (.inr ⟨o, e _ _ h⟩)
  · exact .inr h
theorem p2pos (k : Nat) : (0 : Int) < 2 ^ k := Int.pow_pos (by decide)
/-! loops -/
section
variable {K : PySem.W.Frag} {D : Ends} {σ : L2.St} {H : Hp} {Q : VK} {ta te tl : TE} {t : TS} {g : TG} {s : TA} {wi : TI} {tt : TT} {vs : List Nat}
def ForB (J : It) (g : TG) (t : TS) (D : Ends) (σ : L2.St) (H : Hp) : Prop := ∃ W : Nat → Nat → L2.St → Hp → Prop, (∃ m, W 0 m σ H) ∧ ∀ i m σ H, W i m σ H →
  (J.stop i H ∧ D.nx σ H) ∨ (J.go i H ∧ ∃ N : L2.St → Hp → Prop, (∀ σ' H', N σ' H' → ∃ m', m' < m ∧ W (i + 1) m' σ' H') ∧ ∀ x H', J.yld i H x H' → g x σ H' fun σ2 H2 => t { D with nx := N, ct := N, bk := D.nx } σ2 H2)
theorem w_for (h : wi σ H fun J H1 => ForB J g t D σ H1) : tFor wi g t D σ H := h
def LcB (J : It) (g : TG) (tt : TT) (te : TE) (vs : List Nat) (σ : L2.St) (Q : VK) (H1 : Hp) : Prop := ∀ D, H1 D = none → ∃ W : Nat → Nat → Hp → Prop, (∃ m, W 0 m (upd H1 D (.lst []))) ∧ ∀ i m H, W i m H →
  (J.stop i H ∧ Q (.ref D) H) ∨ (J.go i H ∧ ∃ Nx : Hp → Prop, (∀ H', Nx H' → ∃ m', m' < m ∧ W (i + 1) m' H') ∧ ∀ x H', J.yld i H x H' → g x (wipe σ vs) H' fun σ2 H2 => wipe σ2 vs = wipe σ vs ∧ tt σ2 H2 fun b H3 =>
    if b = true then te σ2 H3 fun y H4 => ∃ acc, H4 D = some (.lst acc) ∧ acc.length < sizeLine ∧ Nx (upd H4 D (.lst (acc ++ [y]))) else Nx H3)
theorem w_lc (h : wi σ H fun J H1 => LcB J g tt te vs σ Q H1) : tLc wi g tt te vs σ H Q := h
def IL1 (K : PySem.W.Frag) (R : It → Hp → Prop) (x : V) (H1 : Hp) : Prop := ∃ a, x = .ref a ∧ (∃ xs, SqL K H1 a xs) ∧ R (Itl K a) H1
def IT1 (K : PySem.W.Frag) (R : It → Hp → Prop) (x : V) (H1 : Hp) : Prop := ∃ a, x = .ref a ∧ (∃ xs, SqT K H1 a xs) ∧ R (Itt K a) H1
def IR1 (R : It → Hp → Prop) (vs : List V) (H1 : Hp) : Prop := ∃ j : Int, vs = [.int j] ∧ -(2 ^ 62) ≤ j ∧ j < 2 ^ 62 ∧ R (Itr 0 j.toNat) H1
def IR2 (R : It → Hp → Prop) (vs : List V) (H1 : Hp) : Prop := ∃ i j : Int, vs = [.int i, .int j] ∧ (-(2 ^ 62) ≤ i ∧ i < 2 ^ 62 ∧ -(2 ^ 62) ≤ j ∧ j < 2 ^ 62) ∧ R (Itr i (j - i).toNat) H1
variable {R : It → Hp → Prop}
theorem w_iL (h : tl σ H fun x H1 => IL1 K R x H1) : iList K tl σ H R := h
theorem w_iT (h : tl σ H fun x H1 => IT1 K R x H1) : iTup K tl σ H R := h
theorem w_iR1 (h : s σ H fun x H1 => IR1 R x H1) : iRng1 s σ H R := h
theorem w_iR2 (h : s σ H fun x H1 => IR2 R x H1) : iRng2 s σ H R := h
theorem w_IL1 {a : Addr} {xs : List V} (h : SqL K H a xs) (q : R (Itl K a) H) : IL1 K R (.ref a) H := ⟨a, rfl, ⟨xs, h⟩, q⟩
theorem w_IT1 {a : Addr} {xs : List V} (h : SqT K H a xs) (q : R (Itt K a) H) : IT1 K R (.ref a) H := ⟨a, rfl, ⟨xs, h⟩, q⟩
theorem w_IR1 {j : Int} (h : -1000000 ≤ j ∧ j ≤ 1000000) (q : R (Itr 0 j.toNat) H) : IR1 R [.int j] H := ⟨j, rfl, by omega, by omega, q⟩
theorem w_IR2 {i j : Int} (h : -1000000 ≤ i ∧ i ≤ 1000000 ∧ -1000000 ≤ j ∧ j ≤ 1000000) (q : R (Itr i (j - i).toNat) H) : IR2 R [.int i, .int j] H := ⟨i, j, rfl, by omega, q⟩
/-- for x in a list that stands: Pv by the turn, the slots, the heap -/
theorem for_l {a : Addr} {j : Nat} (xs : List V) (Pv : Nat → L2.St → Hp → Prop) (h0 : Pv 0 σ H) (hl : ∀ i σ H, i ≤ xs.length → Pv i σ H → SqL K H a xs)
    (hs : ∀ i x σ' H', xs[i]? = some x → Pv i σ' H' → t { D with nx := Pv (i + 1), ct := Pv (i + 1), bk := D.nx } (σ'.set j (some x)) H') (hd : ∀ σ' H', Pv xs.length σ' H' → D.nx σ' H') : ForB (Itl K a) (gName j) t D σ H :=
  for_list Pv h0 hl hs hd
theorem for_t {a : Addr} {j : Nat} (xs : List V) (Pv : Nat → L2.St → Hp → Prop) (h0 : Pv 0 σ H) (hl : ∀ i σ H, i ≤ xs.length → Pv i σ H → SqT K H a xs)
    (hs : ∀ i x σ' H', xs[i]? = some x → Pv i σ' H' → t { D with nx := Pv (i + 1), ct := Pv (i + 1), bk := D.nx } (σ'.set j (some x)) H') (hd : ∀ σ' H', Pv xs.length σ' H' → D.nx σ' H') : ForB (Itt K a) (gName j) t D σ H :=
  for_tup Pv h0 hl hs hd
theorem for_r {n j : Nat} (Pv : Nat → L2.St → Hp → Prop) (h0 : Pv 0 σ H)
    (hs : ∀ (i : Nat) σ' H', i < n → Pv i σ' H' → t { D with nx := Pv (i + 1), ct := Pv (i + 1), bk := D.nx } (σ'.set j (some (.int (i : Int)))) H') (hd : ∀ σ' H', Pv n σ' H' → D.nx σ' H') : ForB (Itr 0 n) (gName j) t D σ H :=
  for_range Pv h0 (fun i σ' H' hi p => by
    show t _ (σ'.set j (some (.int (0 + (i : Int))))) H'
    rw [Int.zero_add]
    exact hs i σ' H' hi p) hd
theorem for_r2 {lo : Int} {n j : Nat} (Pv : Nat → L2.St → Hp → Prop) (h0 : Pv 0 σ H)
    (hs : ∀ (i : Nat) σ' H', i < n → Pv i σ' H' → t { D with nx := Pv (i + 1), ct := Pv (i + 1), bk := D.nx } (σ'.set j (some (.int (lo + (i : Int))))) H') (hd : ∀ σ' H', Pv n σ' H' → D.nx σ' H') : ForB (Itr lo n) (gName j) t D σ H :=
  for_range Pv h0 hs hd
/-- a comprehension over range(n) whose elements leave the heap -/
theorem lc_r {n j : Nat} (f : Nat → V) (hn : n < 1000000) (hw : ∀ x, wipe ((wipe σ vs).set j (some x)) vs = wipe σ vs)
    (he : ∀ (i : Nat) H' (Q' : VK), i < n → Same H H' → Q' (f i) H' → te ((wipe σ vs).set j (some (.int (i : Int)))) H' Q')
    (q : ∀ p H', H p = none → Same H H' → H' p = some (.lst ((List.range n).map f)) → Q (.ref p) H') : LcB (Itr 0 n) (gName j) tYes te vs σ Q H := fun p hp =>
  lc_range (lo := 0) (n := n) (fun i H' => H' = upd H p (.lst ((List.range i).map f))) rfl (fun i H' hi e => by
    subst e
    have e0 : V.int (0 + (i : Int)) = V.int (i : Int) := by rw [Int.zero_add]
    show wipe ((wipe σ vs).set j (some (V.int (0 + (i : Int))))) vs = wipe σ vs ∧ te ((wipe σ vs).set j (some (V.int (0 + (i : Int))))) (upd H p (.lst ((List.range i).map f)))
      (fun y H4 => ∃ acc, H4 p = some (.lst acc) ∧ acc.length < sizeLine ∧ upd H4 p (.lst (acc ++ [y])) = upd H p (.lst ((List.range (i + 1)).map f)))
    rw [e0]
    refine ⟨hw _, he i _ _ hi (same_upd hp) ⟨_, upd_same, ?_, ?_⟩⟩
    · rw [List.length_map, List.length_range]
      exact Nat.lt_of_lt_of_le (show i < 16777216 by omega) (by rw [sizeLine_eq]; exact Nat.le_refl _)
    · rw [upd_upd, List.range_succ, List.map_append]
      rfl) fun H' e => by
    subst e
    exact q p _ hp (same_upd hp) upd_same
end
/-! lists of ints -/
theorem get_map {α : Type} {xs : List α} {f : α → V} {i : Nat} {x : V} (h : (xs.map f)[i]? = some x) : ∃ y, xs[i]? = some y ∧ x = f y := by
  rw [List.getElem?_map] at h
  cases e : xs[i]? with
  | none => rw [e] at h; cases h
  | some y => rw [e] at h; exact ⟨y, rfl, (Option.some.inj h).symm⟩
theorem cut_upto (xs : List V) (n : Nat) : cutV xs none (some (n : Int)) = xs.take n := by
  unfold cutV
  rw [HT.sIx_none, HT.sIx_nat, List.drop_zero, Nat.sub_zero]
  rcases Nat.le_total n xs.length with h | h
  · rw [Nat.min_eq_left h]
  · rw [Nat.min_eq_right h, List.take_of_length_le (Nat.le_refl _), List.take_of_length_le h]
theorem cut_from (xs : List V) (n : Nat) (h : n ≤ xs.length) : cutV xs (some (n : Int)) none = xs.drop n := by
  unfold cutV
  rw [HT.sIx_none, HT.sIx_nat, Nat.min_eq_left h]
  exact List.take_of_length_le (by rw [List.length_drop]; exact Nat.le_refl _)
/-- the cells of a law: at most 63 of the script, and nought behind -/
def cells (ns : List Int) : List Int := ns.take 63 ++ [0]
theorem cells_eq (ns : List Int) : cutV (ns.map V.int) none (some (63 : Int)) ++ [V.int 0] = (cells ns).map V.int := by
  rw [show (63 : Int) = ((63 : Nat) : Int) from rfl, cut_upto, cells, List.map_append, List.map_take]
  rfl
theorem cells_len (ns : List Int) : (cells ns).length ≤ 64 ∧ 1 ≤ (cells ns).length := by
  unfold cells
  rw [List.length_append, List.length_take, List.length_singleton]
  omega
theorem cutV_le (xs : List V) (lo hi : Option Int) {n : Nat} (h : xs.length ≤ n) : (cutV xs lo hi).length ≤ n := Nat.le_trans (cutV_length xs lo hi) h
/-! == of data -/
theorem w_neD {K : PySem.W.Frag} {H : Hp} {Q : VK} {x y : V} {d e : PyData} (hx : Dp K H x d) (hy : Dp K H y e) (sd : SeqAt.shaped d = true) (se : SeqAt.shaped e = true) (q : Q (.bl (!PyData.eqv d e)) H) : rNeD K x y H Q := ⟨d, e, hx, hy, sd, se, q⟩
theorem w_eqD {K : PySem.W.Frag} {H : Hp} {Q : VK} {x y : V} {d e : PyData} (hx : Dp K H x d) (hy : Dp K H y e) (sd : SeqAt.shaped d = true) (se : SeqAt.shaped e = true) (q : Q (.bl (PyData.eqv d e)) H) : rEqD K x y H Q := ⟨d, e, hx, hy, sd, se, q⟩
theorem w_neSame {K : PySem.W.Frag} {H : Hp} {Q : VK} {x y : V} (d : PyData) (hx : Dp K H x d) (hy : Dp K H y d) (sd : SeqAt.shaped d = true) (q : Q (.bl false) H) : rNeD K x y H Q :=
  ⟨d, d, hx, hy, sd, sd, by rw [SeqAt.eqv_refl d (SeqAt.canLay_of_shaped sd)]; exact q⟩
theorem w_eqSame {K : PySem.W.Frag} {H : Hp} {Q : VK} {x y : V} (d : PyData) (hx : Dp K H x d) (hy : Dp K H y d) (sd : SeqAt.shaped d = true) (q : Q (.bl true) H) : rEqD K x y H Q :=
  ⟨d, d, hx, hy, sd, sd, by rw [SeqAt.eqv_refl d (SeqAt.canLay_of_shaped sd)]; exact q⟩
theorem dp_ints {K : PySem.W.Frag} {H : Hp} : ∀ ns : List Int, DpAll K H (ns.map V.int) (ns.map PyData.int)
  | [] => .nil
  | n :: r => .cons (.int n) (dp_ints r)
theorem lay_ints : ∀ ns : List Int, PyData.canLayAll0 (ns.map PyData.int) = true
  | [] => rfl
  | n :: r => by
    show (PyData.canLay0 (.int n) && PyData.canLayAll0 (r.map PyData.int)) = true
    rw [lay_ints r]
    rfl
/-! lists that change -/
section
variable {K : PySem.W.Frag} {D : Ends} {σ : L2.St} {H H1 : Hp} {Q : VK} {to : TE} {t : TA} {b : TS}
/-- what H does not know may change behind it -/
theorem same_mut {o : Addr} {u : HO} (s : Same H H1) (n : H o = none) : Same H (upd H1 o u) := fun c x e => by
  rw [upd_ne (ne_of_none e n)]
  exact s c x e
def BM1 (K : PySem.W.Frag) (T : String) (f : V → List V → Hp → VK → Prop) (t : TA) (σ : L2.St) (Q : VK) (x : V) (H1 : Hp) : Prop := tyV K T x H1 ∧ t σ H1 fun xs H2 => f x xs H2 Q
def BM0 (K : PySem.W.Frag) (T : String) (f : V → List V → Hp → VK → Prop) (Q : VK) (x : V) (H1 : Hp) : Prop := tyV K T x H1 ∧ f x [] H1 Q
theorem w_bm {T : String} {f : V → List V → Hp → VK → Prop} (h : to σ H fun x H1 => BM1 K T f t σ Q x H1) : tBM K T f to t σ H Q := h
theorem w_bm0 {T : String} {f : V → List V → Hp → VK → Prop} (h : to σ H fun x H1 => BM0 K T f Q x H1) : tBM0 K T f to σ H Q := h
theorem w_BML {f : V → List V → Hp → VK → Prop} {p : Addr} {xs : List V} (e : H p = some (.lst xs)) (q : t σ H fun vs H2 => f (.ref p) vs H2 Q) : BM1 K "list" f t σ Q (.ref p) H := ⟨.inl ⟨rfl, xs, SqL.of e⟩, q⟩
theorem w_BM0L {f : V → List V → Hp → VK → Prop} {p : Addr} {xs : List V} (e : H p = some (.lst xs)) (q : f (.ref p) [] H Q) : BM0 K "list" f Q (.ref p) H := ⟨.inl ⟨rfl, xs, SqL.of e⟩, q⟩
theorem w_append {p : Addr} {xs : List V} {y : V} (e : H p = some (.lst xs)) (hz : xs.length ≤ 1000000) (q : Q .non (upd H p (.lst (xs ++ [y])))) : rAppend (.ref p) [y] H Q :=
  ⟨p, xs, y, rfl, rfl, e, Nat.lt_of_le_of_lt hz (by rw [sizeLine_eq]; decide), q⟩
/-- for k, x in enumerate(a list that stands) -/
def IE1 (K : PySem.W.Frag) (R : It → Hp → Prop) (vs : List V) (H1 : Hp) : Prop := ∃ a xs, vs = [.ref a] ∧ SqL K H1 a xs ∧ R (Ite K a) H1
theorem w_iE {s : TA} {R : It → Hp → Prop} (h : s σ H fun x H1 => IE1 K R x H1) : iEnum K s σ H R := h
theorem w_IE1 {a : Addr} {xs : List V} {R : It → Hp → Prop} (h : SqL K H a xs) (q : R (Ite K a) H) : IE1 K R [.ref a] H := ⟨a, xs, rfl, h, q⟩
theorem for_e {a : Addr} {j k : Nat} (xs : List V) (Pv : Nat → L2.St → Hp → Prop) (h0 : Pv 0 σ H) (hl : ∀ n σ H, n ≤ xs.length → Pv n σ H → SqL K H a xs)
    (hs : ∀ (n : Nat) x σ' H' H'', xs[n]? = some x → Pv n σ' H' → Same H' H'' → b { D with nx := Pv (n + 1), ct := Pv (n + 1), bk := D.nx } ((σ'.set j (some (.int (n : Int)))).set k (some x)) H'') (hd : ∀ σ' H', Pv xs.length σ' H' → D.nx σ' H') :
    ForB (Ite K a) (gTup K 2 (gCons (gName j) (gCons (gName k) gNil))) b D σ H := by
  refine ⟨fun i m σ H => m = xs.length - i ∧ i ≤ xs.length ∧ Pv i σ H, ⟨xs.length, by simp, Nat.zero_le _, h0⟩, ?_⟩
  rintro i m σ H ⟨rfl, hi, p⟩
  have q := hl i σ H hi p
  by_cases hlt : i < xs.length
  · refine .inr ⟨⟨xs, xs[i], q, by simp [hlt]⟩, Pv (i + 1), fun σ' H' p' => ⟨xs.length - (i + 1), by omega, rfl, hlt, p'⟩, fun x H' y => ?_⟩
    obtain ⟨T, y, rfl, nT, rfl, hy⟩ := y
    refine ⟨T, _, rfl, SqT.of upd_same, rfl, _, _, rfl, _, _, rfl, rfl, ?_⟩
    exact hs i y σ H _ (hy xs q) p (same_upd nT)
  · have e : i = xs.length := by omega
    subst e
    exact .inl ⟨⟨xs, q, Nat.le_refl _⟩, hd σ H p⟩
end
/-- x & 1 -/
def rBit1 : R2 := fun x y H Q => ∃ i : Int, x = .int i ∧ y = .int 1 ∧ Q (.int (i % 2)) H
theorem op_bit1 {X : Cx} : OpR X (binaryOp .BitAnd) rBit1 := by
  intro pins s σ H x y v u Q I rx ry h
  obtain ⟨i, rfl, rfl, q⟩ := h
  have e : Builtin.bitAnd i 1 = i % 2 := PySem.W.kbt_mask i 1
  rw [← e] at q
  exact op_and pins s σ H _ _ v u Q I rx ry ⟨_, _, rfl, rfl, q⟩
theorem w_bit1 {H : Hp} {Q : VK} {i : Int} (q : Q (.int (i % 2)) H) : rBit1 (.int i) (.int 1) H Q := ⟨i, rfl, rfl, q⟩
/-- x >> k, k a place -/
def rShrN : R2 := fun x y H Q => ∃ (i : Int) (k : Nat), x = .int i ∧ y = .int (k : Int) ∧ Q (.int (i / 2 ^ k)) H
theorem op_shrK {X : Cx} : OpR X (binaryOp .RShift) rShrN := op_shrN
theorem w_shrN {H : Hp} {Q : VK} {i : Int} {k : Nat} (q : Q (.int (i / 2 ^ k)) H) : rShrN (.int i) (.int (k : Int)) H Q := ⟨i, k, rfl, rfl, q⟩
/-- x << k, x small, k a place -/
def rShlN : R2 := fun x y H Q => ∃ (i : Int) (k : Nat), x = .int i ∧ y = .int (k : Int) ∧ (-100 ≤ i ∧ i ≤ 100 ∧ k ≤ 1000000) ∧ Q (.int (i * 2 ^ k)) H
theorem op_shlK {X : Cx} : OpR X (binaryOp .LShift) rShlN := by
  intro pins s σ H x y v u Q I rx ry h
  obtain ⟨i, k, rfl, rfl, ⟨h1, h2, h3⟩, q⟩ := h
  refine op_shl pins s σ H _ _ v u Q I rx ry ⟨_, _, rfl, rfl, ⟨by omega, by omega, Nat.lt_of_le_of_lt (show i.natAbs ≤ 100 by omega) (by decide)⟩, ?_⟩
  show Q (.int (i * 2 ^ (k : Int).toNat)) H
  rw [Int.toNat_natCast]
  exact q
theorem w_shlN {H : Hp} {Q : VK} {i : Int} {k : Nat} (h : -100 ≤ i ∧ i ≤ 100 ∧ k ≤ 1000000) (q : Q (.int (i * 2 ^ k)) H) : rShlN (.int i) (.int (k : Int)) H Q := ⟨i, k, rfl, rfl, h, q⟩
theorem bits_of_int {i : Int} {n : Nat} (h : i.natAbs < 2 ^ n) : Builtin.Int.intBits i ≤ n + 1 := by
  have b : Builtin.Int.intBits i ≤ i.natAbs.log2 + 1 := by
    unfold Builtin.Int.intBits
    split <;> omega
  rcases Nat.eq_zero_or_pos n with h0 | h0
  · subst h0
    have e : i.natAbs = 0 := by omega
    rw [e] at b
    exact b
  · have := PySem.Flt.log2_lt_of h0 h
    omega
theorem mul_ok {i j : Int} {n : Nat} (hi : Builtin.Int.intBits i ≤ 1048576) (hj : j.natAbs < 2 ^ n) (hn : n ≤ 1000000) : IntMulOk i j :=
  CMulX.ok (show (Builtin.Int.intBits i : Int) + (Builtin.Int.intBits j : Int) ≤ 134217728 by have := bits_of_int hj; omega)
theorem mul_sm {i j : Int} (h : -1000000000000 ≤ i ∧ i ≤ 1000000000000) : IntMulOk i j := .of_left (intBits_le_64 (by omega) (by omega))
theorem mul_sm2 {i j : Int} (h : -1000000000000 ≤ j ∧ j ≤ 1000000000000) : IntMulOk i j := .of_right (intBits_le_64 (by omega) (by omega))
theorem depth_ints : ∀ ns : List Int, PyData.depthAll (ns.map PyData.int) ≤ 1
  | [] => Nat.zero_le 1
  | n :: r => by
    have := depth_ints r
    show max (PyData.depth (.int n)) (PyData.depthAll (r.map PyData.int)) ≤ 1
    exact Nat.max_le.mpr ⟨Nat.zero_le 1, this⟩
theorem shaped_ints (ns : List Int) : SeqAt.shaped (.list (ns.map PyData.int)) = true := by
  unfold SeqAt.shaped
  rw [show PyData.canLay0 (.list (ns.map PyData.int)) = true from lay_ints ns, Bool.true_and]
  have h := depth_ints ns
  exact decide_eq_true (show PyData.depthAll (ns.map PyData.int) + 1 ≤ 64 by omega)
/-! targets of several names -/
section
variable {K : PySem.W.Frag} {σ : L2.St} {H : Hp} {t : TG} {u tt : TGs} {QS : L2.St → Hp → Prop}
theorem w_gTup {n : Nat} {a : Addr} {xs : List V} (h : SqT K H a xs) (e : xs.length = n) (q : tt xs σ H QS) : gTup K n tt (.ref a) σ H QS := ⟨a, xs, rfl, h, e, q⟩
theorem w_gCons {v : V} {r : List V} (q : t v σ H fun σ' H' => u r σ' H' QS) : gCons t u (v :: r) σ H QS := ⟨v, r, rfl, q⟩
theorem w_gNil (q : QS σ H) : gNil [] σ H QS := ⟨rfl, q⟩
theorem w_gName {v : V} {i : Nat} (q : QS (σ.set i (some v)) H) : gName i v σ H QS := q
end
/-- how many bits a number has -/
theorem ib_le {x : Int} (h : 0 ≤ x) (n : Nat) : Builtin.Int.intBits x ≤ n ↔ x < 2 ^ n := by
  obtain ⟨k, rfl⟩ := Int.eq_ofNat_of_zero_le h
  have e : (k : Int) < 2 ^ n ↔ k < 2 ^ n := by
    rw [show ((2 : Int) ^ n) = ((2 ^ n : Nat) : Int) by rw [Int.natCast_pow]; rfl]
    exact Int.ofNat_lt
  rw [e]
  by_cases h0 : k = 0
  · subst h0
    exact ⟨fun _ => Nat.pos_of_ne_zero (by intro z; exact absurd z (Nat.ne_of_gt (Nat.pow_pos (by decide)))), fun _ => Nat.zero_le _⟩
  · have hb : Builtin.Int.intBits (k : Int) = k.log2 + 1 := by
      unfold Builtin.Int.intBits
      rw [if_neg (by simpa using h0)]
      rfl
    rw [hb]
    exact (Nat.log2_lt h0)
theorem mul_cc {i j : Int} (hi : Builtin.Int.intBits i ≤ 1048576) (hj : Builtin.Int.intBits j ≤ 1048576) : IntMulOk i j :=
  CMulX.ok (show (Builtin.Int.intBits i : Int) + (Builtin.Int.intBits j : Int) ≤ 134217728 by omega)
theorem abs_pow (n : Nat) : ((1 : Int) * 2 ^ n).natAbs = 2 ^ n := by
  rw [Int.one_mul, Int.natAbs_pow]
  rfl
/-! cells of a script by their places -/
theorem get_int {ns : List Int} {i : Nat} (hi : i < ns.length) : atI (ns.map V.int) (i : Int) = some (.int ns[i]) := atI_nat (by rw [List.getElem?_map, List.getElem?_eq_getElem hi]; rfl)
theorem atI_lastD {bs : List Int} (h : bs ≠ []) : atI (bs.map V.int) (-1) = some (.int (bs.getLastD 0)) := by
  obtain ⟨r, x, rfl⟩ : ∃ r x, bs = r ++ [x] := ⟨bs.dropLast, bs.getLast h, (List.dropLast_concat_getLast h).symm⟩
  rw [List.map_append]
  have e : (r ++ [x]).getLastD 0 = x := by simp
  rw [e]
  exact atI_last _ _
theorem atI_prev {xs : List Int} {k : Nat} (hk : k < xs.length) : ∃ c, atI (xs.map V.int) ((k : Int) - 1) = some (.int c) ∧ c ∈ xs := by
  cases k with
  | zero =>
    have hne : xs ≠ [] := fun z => by
      rw [z] at hk
      exact absurd hk (by decide)
    refine ⟨xs.getLastD 0, atI_lastD hne, ?_⟩
    obtain ⟨r, x, rfl⟩ : ∃ r x, xs = r ++ [x] := ⟨xs.dropLast, xs.getLast hne, (List.dropLast_concat_getLast hne).symm⟩
    simp
  | succ j =>
    have hj : j < xs.length := by omega
    refine ⟨xs[j], ?_, List.getElem_mem hj⟩
    have e : ((j + 1 : Nat) : Int) - 1 = (j : Int) := by omega
    rw [e]
    exact get_int hj
theorem cells_bits {ns : List Int} (h : ∀ z ∈ ns, Builtin.Int.intBits z ≤ 1048576) : ∀ z ∈ cells ns, Builtin.Int.intBits z ≤ 1048576 := by
  intro z hz
  rcases List.mem_append.mp hz with q | q
  · exact h z (List.mem_of_mem_take q)
  · have e : z = 0 := List.mem_singleton.mp q
    rw [e]
    decide
/-! texts compared -/
theorem w_itS1 {x y : Str} {A B : Prop} (e : decide (x = y) = true) (h : A) : if decide (V.str x = V.str y) = true then A else B := by
  rw [of_decide_eq_true e, decide_eq_true rfl]
  exact w_itT h
theorem w_itS0 {x y : Str} {A B : Prop} (e : decide (x = y) = false) (h : B) : if decide (V.str x = V.str y) = true then A else B := by
  rw [decide_eq_false (fun z => of_decide_eq_false e (V.str.inj z))]
  exact w_itF h
theorem w_itN1 {x y : Str} {A B : Prop} (e : decide (x = y) = true) (h : B) : if (!decide (V.str x = V.str y)) = true then A else B := by
  rw [of_decide_eq_true e, decide_eq_true rfl]
  exact w_itF h
theorem w_itN0 {x y : Str} {A B : Prop} (e : decide (x = y) = false) (h : A) : if (!decide (V.str x = V.str y)) = true then A else B := by
  rw [decide_eq_false (fun z => of_decide_eq_false e (V.str.inj z))]
  exact w_itT h
theorem w_itS {x y : Str} {A B : Prop} (h1 : x = y → A) (h2 : x ≠ y → B) : if decide (V.str x = V.str y) = true then A else B := by
  by_cases e : x = y
  · exact w_itS1 (decide_eq_true e) (h1 e)
  · exact w_itS0 (decide_eq_false e) (h2 e)
theorem w_itSN {x y : Str} {A B : Prop} (h1 : x ≠ y → A) (h2 : x = y → B) : if (!decide (V.str x = V.str y)) = true then A else B := by
  by_cases e : x = y
  · exact w_itN1 (decide_eq_true e) (h2 e)
  · exact w_itN0 (decide_eq_false e) (h1 e)
/-! dicts asked -/
def DG1 (x y : V) (H2 : Hp) (Q : VK) : Prop := ∃ a v, x = .ref a ∧ DGet H2 a y (some v) ∧ Q v H2
theorem w_dget {td ty : TE} {σ : L2.St} {H : Hp} {Q : VK} (h : td σ H fun x H1 => ty σ H1 fun y H2 => DG1 x y H2 Q) : tDGet td ty σ H Q := h
theorem w_DG1 {a : Addr} {kvs : List (Key × V)} {n : Str} {v : V} {H : Hp} {Q : VK} (e : H a = some (.dK kvs)) (g : valV kvs (Sum.inr n) = some v) (q : Q v H) : DG1 (.ref a) (.str n) H Q :=
  ⟨a, v, rfl, by rw [← g]; exact DGet.k (k := Sum.inr n) e, q⟩
/-! lists in step -/
def A2 {α β : Type} (R : α → β → Prop) (xs : List α) (ys : List β) : Prop := xs.length = ys.length ∧ ∀ (i : Nat) x y, xs[i]? = some x → ys[i]? = some y → R x y
theorem A2.nil {α β : Type} {R : α → β → Prop} : A2 R [] [] := ⟨rfl, fun i x y h => by cases h⟩
theorem A2.snoc {α β : Type} {R : α → β → Prop} {xs : List α} {ys : List β} {x : α} {y : β} (h : A2 R xs ys) (r : R x y) : A2 R (xs ++ [x]) (ys ++ [y]) := by
  refine ⟨by rw [List.length_append, List.length_append, h.1]; rfl, fun i u v hu hv => ?_⟩
  rcases Nat.lt_trichotomy i xs.length with q | q | q
  · rw [List.getElem?_append_left q] at hu
    rw [List.getElem?_append_left (by rw [← h.1]; exact q)] at hv
    exact h.2 i u v hu hv
  · subst q
    rw [List.getElem?_append_right (Nat.le_refl _), Nat.sub_self] at hu
    rw [h.1, List.getElem?_append_right (Nat.le_refl _), Nat.sub_self] at hv
    cases hu
    cases hv
    exact r
  · rw [List.getElem?_eq_none (by rw [List.length_append]; exact q)] at hu
    cases hu
theorem A2.mono {α β : Type} {R S : α → β → Prop} {xs : List α} {ys : List β} (h : A2 R xs ys) (k : ∀ x y, R x y → S x y) : A2 S xs ys := ⟨h.1, fun i x y a b => k x y (h.2 i x y a b)⟩
theorem A2.get {α β : Type} {R : α → β → Prop} {xs : List α} {ys : List β} {i : Nat} {x : α} (h : A2 R xs ys) (e : xs[i]? = some x) : ∃ y, ys[i]? = some y ∧ R x y := by
  have hi := (List.getElem?_eq_some_iff.mp e).1
  have hj : i < ys.length := by rw [← h.1]; exact hi
  exact ⟨ys[i], List.getElem?_eq_getElem hj, h.2 i x _ e (List.getElem?_eq_getElem hj)⟩
theorem A2.get2 {α β : Type} {R : α → β → Prop} {xs : List α} {ys : List β} {i : Nat} {y : β} (h : A2 R xs ys) (e : ys[i]? = some y) : ∃ x, xs[i]? = some x ∧ R x y := by
  have hi := (List.getElem?_eq_some_iff.mp e).1
  have hj : i < xs.length := by rw [h.1]; exact hi
  exact ⟨xs[i], List.getElem?_eq_getElem hj, h.2 i _ y (List.getElem?_eq_getElem hj) e⟩
theorem mul_ok2 {i j : Int} {n : Nat} (hi : Builtin.Int.intBits i ≤ 1048576) (hj : j.natAbs < 2 ^ n) (hn : n ≤ 1000000) : IntMulOk i j := mul_ok hi hj hn
/-! the rules with the written part named (within a comprehension it must be) -/
theorem ix_tupK {X : Cx} (K : PySem.W.Frag) (e : X.K = K := by rfl) : IxR X (rIxT K) := by subst e; exact ix_tup
theorem ix_listK {X : Cx} (K : PySem.W.Frag) (e : X.K = K := by rfl) : IxR X (rIxL K) := by subst e; exact ix_list
theorem c_lenK {X : Cx} (K : PySem.W.Frag) (e : X.K = K := by rfl) : CallR X (.builtin "len") (rLen K) := by subst e; exact c_len
theorem c_listK {X : Cx} (K : PySem.W.Frag) (e : X.K = K := by rfl) : CallR X (.type "list") (rListOf K) := by subst e; exact c_list
theorem c_isiK {X : Cx} (K : PySem.W.Frag) (e : X.K = K := by rfl) : CallR X (.builtin "isinstance") (rIsi K) := by subst e; exact call_isi
/-- a comprehension over a list that stands, whose elements leave the heap -/
theorem lc_l {K : PySem.W.Frag} {σ : L2.St} {H : Hp} {Q : VK} {te : TE} {vs : List Nat} {a : Addr} {j : Nat} (xs ys : List V) (hlen : ys.length = xs.length) (hS : SqL K H a xs) (hz : xs.length ≤ 1000000) (hw : ∀ x, wipe ((wipe σ vs).set j (some x)) vs = wipe σ vs)
    (he : ∀ (i : Nat) x y H' (Q' : VK), xs[i]? = some x → ys[i]? = some y → Same H H' → Q' y H' → te ((wipe σ vs).set j (some x)) H' Q')
    (q : ∀ p H', H p = none → Same H H' → H' p = some (.lst ys) → Q (.ref p) H') : LcB (Itl K a) (gName j) tYes te vs σ Q H := fun p hp =>
  lc_list (xs := xs) (fun i H' => H' = upd H p (.lst (ys.take i))) rfl (fun i H' _ e => by
    subst e
    exact (same_upd hp).seq hS) (fun i x H' hx e => by
    subst e
    have hi := (List.getElem?_eq_some_iff.mp hx).1
    have hy : ys[i]? = some ys[i] := List.getElem?_eq_getElem (by omega)
    show wipe ((wipe σ vs).set j (some x)) vs = wipe σ vs ∧ te ((wipe σ vs).set j (some x)) (upd H p (.lst (ys.take i)))
      (fun y H4 => ∃ acc, H4 p = some (.lst acc) ∧ acc.length < sizeLine ∧ upd H4 p (.lst (acc ++ [y])) = upd H p (.lst (ys.take (i + 1))))
    refine ⟨hw _, he i x _ _ _ hx hy (same_upd hp) ⟨_, upd_same, ?_, ?_⟩⟩
    · rw [List.length_take]
      exact Nat.lt_of_lt_of_le (show min i ys.length < 16777216 by omega) (by rw [sizeLine_eq]; exact Nat.le_refl _)
    · rw [upd_upd, List.take_add_one, hy]
      rfl) fun H' e => by
    subst e
    refine q p _ hp (same_upd hp) ?_
    rw [upd_same, List.take_of_length_le (by omega)]
/-- x // (1 << k) -/
def rDivP : R2 := fun x y H Q => ∃ (i : Int) (k : Nat), x = .int i ∧ y = .int (1 * 2 ^ k) ∧ k ≤ 5000 ∧ Q (.int (i / 2 ^ k)) H
theorem op_divP {X : Cx} : OpR X (binaryOp .FloorDiv) rDivP := by
  intro pins s σ H x y v u Q I rx ry h
  obtain ⟨i, k, rfl, rfl, hk, q⟩ := h
  refine op_fdivW pins s σ H _ _ v u Q I rx ry ⟨_, _, rfl, rfl, ?_, ?_⟩
  · refine wide_div (b := k + 1) (by rw [Int.one_mul]; exact p2pos k) ?_ (Nat.succ_pos _) (by omega)
    rw [abs_pow]
    exact Nat.pow_lt_pow_right (by decide) (Nat.lt_succ_self k)
  · show Q (.int (i / (1 * 2 ^ k))) H
    rw [Int.one_mul]
    exact q
theorem w_divP {H : Hp} {Q : VK} {i : Int} {k : Nat} (h : k ≤ 5000) (q : Q (.int (i / 2 ^ k)) H) : rDivP (.int i) (.int (1 * 2 ^ k)) H Q := ⟨i, k, rfl, rfl, h, q⟩
theorem hp_upd {H : Hp} {a b : Addr} {o u : HO} (ne : b ≠ a) (h : H b = some o) : upd H a u b = some o := by rw [upd_ne ne]; exact h
theorem hp_upd2 {H : Hp} {a b : Addr} {o u : HO} (ne : a ≠ b) (h : H b = some o) : upd H a u b = some o := hp_upd ne.symm h
/-- a comprehension over a range, of whose elements something is known -/
theorem lc_rx {σ : L2.St} {H : Hp} {Q : VK} {te : TE} {vs : List Nat} {lo : Int} {n j : Nat} (P : V → Prop) (hn : n < 1000000) (hw : ∀ x, wipe ((wipe σ vs).set j (some x)) vs = wipe σ vs)
    (he : ∀ (i : Nat) H' (Q' : VK), i < n → Same H H' → (∀ y, P y → Q' y H') → te ((wipe σ vs).set j (some (.int (lo + (i : Int))))) H' Q')
    (q : ∀ ys p H', ys.length = n → (∀ y ∈ ys, P y) → H p = none → Same H H' → H' p = some (.lst ys) → Q (.ref p) H') : LcB (Itr lo n) (gName j) tYes te vs σ Q H := fun p hp =>
  lc_range (lo := lo) (n := n) (fun i H' => ∃ ys : List V, ys.length = i ∧ (∀ y ∈ ys, P y) ∧ H' = upd H p (.lst ys)) ⟨[], rfl, fun y h => (by cases h), rfl⟩ (fun i H' hi e => by
    obtain ⟨ys, hl, hP, rfl⟩ := e
    show wipe ((wipe σ vs).set j (some (V.int (lo + (i : Int))))) vs = wipe σ vs ∧ te ((wipe σ vs).set j (some (V.int (lo + (i : Int))))) (upd H p (.lst ys))
      (fun y H4 => ∃ acc, H4 p = some (.lst acc) ∧ acc.length < sizeLine ∧ ∃ zs : List V, zs.length = i + 1 ∧ (∀ y ∈ zs, P y) ∧ upd H4 p (.lst (acc ++ [y])) = upd H p (.lst zs))
    refine ⟨hw _, he i _ _ hi (same_upd hp) fun y hy => ⟨ys, upd_same, ?_, ys ++ [y], ?_, ?_, ?_⟩⟩
    · exact Nat.lt_of_lt_of_le (show ys.length < 16777216 by omega) (by rw [sizeLine_eq]; exact Nat.le_refl _)
    · rw [List.length_append, hl]
      rfl
    · intro z hz
      rcases List.mem_append.mp hz with k | k
      · exact hP z k
      · rw [List.mem_singleton.mp k]
        exact hy
    · rw [upd_upd]) fun H' e => by
    obtain ⟨ys, hl, hP, rfl⟩ := e
    exact q ys p _ hl hP hp (same_upd hp) upd_same
/-- .. over a list -/
theorem lc_lx {K : PySem.W.Frag} {σ : L2.St} {H : Hp} {Q : VK} {te : TE} {vs : List Nat} {a : Addr} {j : Nat} (xs : List V) (P : V → Prop) (hS : SqL K H a xs) (hz : xs.length ≤ 1000000) (hw : ∀ x, wipe ((wipe σ vs).set j (some x)) vs = wipe σ vs)
    (he : ∀ (i : Nat) x H' (Q' : VK), xs[i]? = some x → Same H H' → (∀ y, P y → Q' y H') → te ((wipe σ vs).set j (some x)) H' Q')
    (q : ∀ ys p H', ys.length = xs.length → (∀ y ∈ ys, P y) → H p = none → Same H H' → H' p = some (.lst ys) → Q (.ref p) H') : LcB (Itl K a) (gName j) tYes te vs σ Q H := fun p hp =>
  lc_list (xs := xs) (fun i H' => ∃ ys : List V, ys.length = i ∧ (∀ y ∈ ys, P y) ∧ H' = upd H p (.lst ys)) ⟨[], rfl, fun y h => (by cases h), rfl⟩ (fun i H' _ e => by
    obtain ⟨ys, hl, hP, rfl⟩ := e
    exact (same_upd hp).seq hS) (fun i x H' hx e => by
    obtain ⟨ys, hl, hP, rfl⟩ := e
    have hi := (List.getElem?_eq_some_iff.mp hx).1
    show wipe ((wipe σ vs).set j (some x)) vs = wipe σ vs ∧ te ((wipe σ vs).set j (some x)) (upd H p (.lst ys))
      (fun y H4 => ∃ acc, H4 p = some (.lst acc) ∧ acc.length < sizeLine ∧ ∃ zs : List V, zs.length = i + 1 ∧ (∀ y ∈ zs, P y) ∧ upd H4 p (.lst (acc ++ [y])) = upd H p (.lst zs))
    refine ⟨hw _, he i x _ _ hx (same_upd hp) fun y hy => ⟨ys, upd_same, ?_, ys ++ [y], ?_, ?_, ?_⟩⟩
    · exact Nat.lt_of_lt_of_le (show ys.length < 16777216 by omega) (by rw [sizeLine_eq]; exact Nat.le_refl _)
    · rw [List.length_append, hl]
      rfl
    · intro z hz
      rcases List.mem_append.mp hz with k | k
      · exact hP z k
      · rw [List.mem_singleton.mp k]
        exact hy
    · rw [upd_upd]) fun H' e => by
    obtain ⟨ys, hl, hP, rfl⟩ := e
    exact q ys p _ hl hP hp (same_upd hp) upd_same
/-- values that are all of one form -/
theorem all_map {α : Type} {f : α → V} {R : α → Prop} : ∀ {ys : List V}, (∀ y ∈ ys, ∃ x, y = f x ∧ R x) → ∃ xs : List α, ys = xs.map f ∧ ∀ x ∈ xs, R x
  | [], _ => ⟨[], rfl, fun x h => by cases h⟩
  | y :: r, h => by
    obtain ⟨x, rfl, hx⟩ := h y (List.mem_cons_self ..)
    obtain ⟨xs, rfl, hr⟩ := all_map (f := f) (R := R) fun z hz => h z (List.mem_cons_of_mem _ hz)
    exact ⟨x :: xs, rfl, fun z hz => by
      rcases List.mem_cons.mp hz with e | e
      · rw [e]; exact hx
      · exact hr z e⟩
/-- int(a truth value) -/
def rIntB : List V → Hp → VK → Prop := fun xs H Q => ∃ k : Bool, xs = [.bl k] ∧ Q (.int (if k then 1 else 0)) H
theorem c_intB {X : Cx} : CallR X (.type "int") rIntB := by
  intro pins s σ H xs us Q I r h
  obtain ⟨k, rfl, q⟩ := h
  exact call_int1 pins s σ H _ us Q I r (.inr ⟨k, rfl, q⟩)
theorem w_intB {H : Hp} {Q : VK} {k : Bool} (q : Q (.int (if k then 1 else 0)) H) : rIntB [.bl k] H Q := ⟨k, rfl, q⟩
theorem w_ixS {z : Str} {i : Int} {c : Nat} {H : Hp} {Q : VK} (hz : z.length ≤ 1000000) (h : atI z.cps.toList i = some c) (q : Q (.str ⟨#[c]⟩) H) : rIxS (.str z) (.int i) H Q :=
  ⟨z, i, c, rfl, rfl, Nat.le_trans hz (by rw [sizeLine_eq]; decide), h, q⟩
theorem w_slS {z : Str} {lo hi : Option Int} {H : Hp} {Q : VK} (hz : z.length ≤ 1000000) (q : Q (.str (cutS z lo hi)) H) : rSlS (.str z) lo hi H Q := ⟨z, rfl, Nat.le_trans hz (by rw [sizeLine_eq]; decide), q⟩
/-- ''.join -/
def rJoin (K : PySem.W.Frag) : V → List V → Hp → VK → Prop := fun x xs H Q => ∃ a p, ∃ ys : List Str, x = .str a ∧ xs = [.ref p] ∧ (SqL K H p (ys.map V.str) ∨ SqT K H p (ys.map V.str)) ∧
    (ys.map (·.length)).sum + ys.length * a.length ≤ 16777216 ∧ Q (.str (Txt.join a ys)) H
theorem p_join {X : Cx} {o e : Expr} {to te : TE} {apos pos : Pos} (K : PySem.W.Frag) (ho : PE X o to) (he : PE X e te) (hs : starEach [e] X.env = [(false, eval e X.env)] := by rfl) (hbase : attributeBase o "join" X.env (eval o X.env) = eval o X.env := by rfl) (hline : (apos.endLine == pos.line) = true := by rfl) (hK : X.K = K := by rfl) :
    PE X (.Call (.Attribute o "join" apos) [e] [] pos) (tM1 (rJoin K) to te) := by
  subst hK
  exact pe_join ho he hs hbase hline
def M11 (f : V → List V → Hp → VK → Prop) (te : TE) (σ : L2.St) (Q : VK) (x : V) (H1 : Hp) : Prop := (∃ a, x = .str a) ∧ te σ H1 fun y H2 => f x [y] H2 Q
theorem w_tm1 {f : V → List V → Hp → VK → Prop} {to te : TE} {σ : L2.St} {H : Hp} {Q : VK} (h : to σ H fun x H1 => M11 f te σ Q x H1) : tM1 f to te σ H Q := h
theorem w_M11 {f : V → List V → Hp → VK → Prop} {te : TE} {σ : L2.St} {H : Hp} {Q : VK} {a : Str} (h : te σ H fun y H2 => f (.str a) [y] H2 Q) : M11 f te σ Q (.str a) H := ⟨⟨a, rfl⟩, h⟩
theorem w_join {K : PySem.W.Frag} {H : Hp} {Q : VK} {a : Str} {p : Addr} {ys : List Str} (h : SqL K H p (ys.map V.str)) (hz : (ys.map (·.length)).sum + ys.length * a.length ≤ 16777216) (q : Q (.str (Txt.join a ys)) H) : rJoin K (.str a) [.ref p] H Q :=
  ⟨a, p, ys, rfl, rfl, .inl h, hz, q⟩
/-! x in a list, in a tuple -/
theorem w_inL {K : PySem.W.Frag} {H : Hp} {Q : VK} {x : V} {p : Addr} {xs : List V} (h : SqL K H p xs) (hx : flatV x = true) (ha : xs.all flatV = true) (q : Q (.bl (inV x xs)) H) : rIn K false x (.ref p) H Q := ⟨p, xs, rfl, .inl h, hx, ha, q⟩
theorem w_inT {K : PySem.W.Frag} {H : Hp} {Q : VK} {x : V} {p : Addr} {xs : List V} (h : SqT K H p xs) (hx : flatV x = true) (ha : xs.all flatV = true) (q : Q (.bl (inV x xs)) H) : rIn K false x (.ref p) H Q := ⟨p, xs, rfl, .inr h, hx, ha, q⟩
theorem op_inK {X : Cx} (K : PySem.W.Frag) (e : X.K = K := by rfl) : OpR X (compareOp .In) (rIn K false) := by subst e; exact op_in_seq
theorem w_niL {K : PySem.W.Frag} {H : Hp} {Q : VK} {x : V} {p : Addr} {xs : List V} (h : SqL K H p xs) (hx : flatV x = true) (ha : xs.all flatV = true) (q : Q (.bl (!inV x xs)) H) : rIn K true x (.ref p) H Q := ⟨p, xs, rfl, .inl h, hx, ha, q⟩
theorem w_niT {K : PySem.W.Frag} {H : Hp} {Q : VK} {x : V} {p : Addr} {xs : List V} (h : SqT K H p xs) (hx : flatV x = true) (ha : xs.all flatV = true) (q : Q (.bl (!inV x xs)) H) : rIn K true x (.ref p) H Q := ⟨p, xs, rfl, .inr h, hx, ha, q⟩
theorem op_niK {X : Cx} (K : PySem.W.Frag) (e : X.K = K := by rfl) : OpR X (compareOp .NotIn) (rIn K true) := by subst e; exact op_notIn_seq
end Dpr

namespace Dpr
open PySem PySem.Spec PyProof.Rows L2 PySem.SeqAt
open MeetsSeq MeetsSeq2 MeetsSeq3 SeqRoads2
/-! != of two lists whose items are alike -/
abbrev LstO (d : Option Addr) (xs : Array Value) (n : Nat) (z : Array (Option Value)) : Obj := { cls := .type "list", dict := d, data := .seq xs n, slots := z }
theorem unlike_loop {pr : Program} {wd : World} {p q : Addr} {xs ys : Array Value} {n m : Nat} {d d' : Option Addr} {z z' : Array (Option Value)} (same : xs.size = ys.size) : ∀ (left i : Nat), xs.size - i = left →
    MeetsIn pr wd (Builtin.«list.__eq__.loop» ⟨[.ref p, .ref q, rawInt i, rawInt 3], []⟩) fun A R s => s.heap.get? p = some (LstO d xs n z) ∧ s.heap.get? q = some (LstO d' ys m z') ∧
      (∀ j (u : j < xs.size) (v : j < ys.size), EqP pr wd A.in1 s xs[j] ys[j] true) ∧ R (.ok (.ret (.bool false))) s := by
  intro left
  induction left with
  | zero =>
    intro i gone A R st ⟨gp, gq, alike, r⟩
    obtain ⟨hp, gl, dd, tk, os⟩ := st
    wp_walk using AutoSeq1.wpAny_loadPart' gp, AutoSeq1.wpAny_loadPart' gq
    have n1 : xs[((i : Nat) : Int).toNat]? = none := Array.getElem?_eq_none (by rw [Int.toNat_natCast]; omega)
    have n2 : ys[((i : Nat) : Int).toNat]? = none := Array.getElem?_eq_none (by rw [Int.toNat_natCast]; omega)
    rw [n1, n2]
    wp_walk using AutoSeq1.wpAny_loadPart' gp, AutoSeq1.wpAny_loadPart' gq
    show R (.ok (.ret (.bool (xs.size != ys.size)))) _
    rw [same, bne_self_eq_false]
    exact r
  | succ left again =>
    intro i gone A R st ⟨gp, gq, alike, r⟩
    obtain ⟨hp, gl, dd, tk, os⟩ := st
    wp_walk using AutoSeq1.wpAny_loadPart' gp, AutoSeq1.wpAny_loadPart' gq
    have u : i < xs.size := by omega
    have v : i < ys.size := by omega
    have n1 : xs[((i : Nat) : Int).toNat]? = some xs[i] := by rw [Int.toNat_natCast]; exact Array.getElem?_eq_getElem u
    have n2 : ys[((i : Nat) : Int).toNat]? = some ys[i] := by rw [Int.toNat_natCast]; exact Array.getElem?_eq_getElem v
    rw [n1, n2]
    refine wpAny_bind (alike i u v _ _ ?_)
    wp_walk
    rw [show ((i : Int) + 1) = ((i + 1 : Nat) : Int) from rfl]
    exact ⟨plainId_quiet plain_eq_loop _, codeAny_builtin entry_eq_loop (by rw [Around.under_plainId plain_eq_loop _]; exact again (i + 1) (by omega) A R _ ⟨gp, gq, alike, r⟩)⟩
theorem unlike_list {pr : Program} {wd : World} {p q : Addr} {xs ys : Array Value} {n m : Nat} {d d' : Option Addr} {z z' : Array (Option Value)} (same : xs.size = ys.size) :
    MeetsIn pr wd (Builtin.«list.__ne__» ⟨[.ref p, .ref q], []⟩) fun A R s => s.heap.get? p = some (LstO d xs n z) ∧ s.heap.get? q = some (LstO d' ys m z') ∧
      (∀ j (u : j < xs.size) (v : j < ys.size), EqP pr wd A.in1 s xs[j] ys[j] true) ∧ R (.ok (.ret (.bool false))) s := by
  intro A R st ⟨gp, gq, alike, r⟩
  obtain ⟨hp, gl, dd, tk, os⟩ := st
  have sub := AutoSeq1.sub_list_list
  have nosz : ¬ (xs.size != ys.size) = true := by rw [same, bne_self_eq_false]; exact Bool.false_ne_true
  wp_walk using AutoSeq1.wpAny_loadPart' gp, AutoSeq1.wpAny_loadPart' gq
  exact ⟨plainId_quiet plain_eq_loop _, codeAny_builtin entry_eq_loop (by rw [Around.under_plainId plain_eq_loop _]; exact unlike_loop same _ 0 rfl A R _ ⟨gp, gq, alike, r⟩)⟩
theorem rc_unlike {pr : Program} {wd : World} {A : Around} {s : Shared} {p q : Addr} {xs ys : Array Value} (lp : s.heap.IsList p xs) (lq : s.heap.IsList q ys) (same : xs.size = ys.size) (room : A.units < cLine)
    (alike : ∀ j (u : j < xs.size) (v : j < ys.size), EqP pr wd A.in1 s xs[j] ys[j] true) (E Q : Value → Shared → Prop) (h : Q (.bool false) s) : wpAny (model pr wd) A (richCompare .NotEq (.ref p) (.ref q)) Q E s := by
  obtain ⟨⟨c, d, t, z⟩, gp, cp, n, tp⟩ := id lp
  obtain ⟨⟨c', d', t', z'⟩, gq, cq, m, tq⟩ := id lq
  simp only at cp tp cq tq
  subst cp tp cq tq
  have ip : s.TypeIs (.ref p) "list" := ⟨_, gp, rfl⟩
  have iq : s.TypeIs (.ref q) "list" := ⟨_, gq, rfl⟩
  exact wpAny_richCompare_same_room (op := .NotEq) ip iq F.slot_list_ne (call_meetsIn F.slot_list_ne ip F.entry_list_ne (F.args_list_ne_2 _ _) (unlike_list same) ⟨gp, gq, alike, show Value.bool false ≠ Value.notImplemented ∧ Q (.bool false) s from ⟨(fun z => nomatch z), h⟩⟩) room
/-- a != b, two lists of alike items -/
def rNeV (K : PySem.W.Frag) : R2 := fun x y H Q => ∃ n, n ≤ 60 ∧ (∃ a b xs ys, x = .ref a ∧ y = .ref b ∧ SqL K H a xs ∧ SqL K H b ys ∧ Paired (EqV K H n) xs ys) ∧ Q (.bl false) H
theorem op_neV {X : Cx} (hu : X.A.units + 64 < cLine) (K : PySem.W.Frag) (e : X.K = K := by rfl) : OpR X (compareOp .NotEq) (rNeV K) := by
  subst e
  intro pins s σ H x y v u Q I rx ry h
  obtain ⟨n, hn, ⟨a, b, xs, ys, rfl, rfl, ha, hb, hp⟩, q⟩ := h
  cases (show v = Value.ref a from rx)
  cases (show u = Value.ref b from ry)
  obtain ⟨us, r1, p1, _⟩ := I.list ha
  obtain ⟨ws, r2, p2, _⟩ := I.list hb
  have sz : us.toArray.size = ws.toArray.size := by
    rw [List.size_toArray, List.size_toArray, ← r1.length, ← r2.length]
    exact Paired.length hp
  refine rc_unlike p1.isList p2.isList sz (by omega) (fun j u v => ?_) _ _ ⟨.bl false, H, I, rfl, q⟩
  have k := items_run (eqV_run I n X.A.in1 (by show X.A.units + 1 + n < cLine; omega)) hp r1 r2 j (by simpa using u) (by simpa using v)
  simpa using k
end Dpr

namespace Dpr
open PySem PySem.Spec PyProof.Rows L2
/-! ### rows of gates -/
inductive Bop where
  | and | or | xor
  deriving DecidableEq
inductive Row where
  | fix (b : Int) | inn (n : Str) (k : Nat) | inv (a : Nat) | bin (o : Bop) (a b : Nat) | lat (a : Nat)
  deriving DecidableEq
def bopS : Bop → Str
  | .and => "and" | .or => "or" | .xor => "xor"
def rowV : Row → List V
  | .fix b => [.str "fix", .int b]
  | .inn n k => [.str "in", .str n, .int (k : Int)]
  | .inv a => [.str "not", .int (a : Int)]
  | .bin o a b => [.str (bopS o), .int (a : Int), .int (b : Int)]
  | .lat a => [.str "latch", .int (a : Int)]
def RowAt (H : Hp) (p : Addr) (r : Row) : Prop := H p = some (.tup (rowV r))
/-- a list of rows that may be read -/
def RowsL (K : PySem.W.Frag) (H : Hp) (a : Addr) (rs : List Row) : Prop := ∃ ps : List Addr, SqL K H a (ps.map V.ref) ∧ A2 (RowAt H) ps rs
/-- one of our own, that may change -/
def RowsM (H : Hp) (a : Addr) (rs : List Row) : Prop := ∃ ps : List Addr, H a = some (.lst (ps.map V.ref)) ∧ A2 (RowAt H) ps rs
theorem RowsL.same {K : PySem.W.Frag} {H H' : Hp} {a : Addr} {rs : List Row} (s : Same H H') (h : RowsL K H a rs) : RowsL K H' a rs := by
  obtain ⟨ps, h1, h2⟩ := h
  exact ⟨ps, s.seq h1, h2.mono fun p r e => s _ _ e⟩
theorem RowsM.same {H H' : Hp} {a : Addr} {rs : List Row} (s : Same H H') (h : RowsM H a rs) : RowsM H' a rs := by
  obtain ⟨ps, h1, h2⟩ := h
  exact ⟨ps, s _ _ h1, h2.mono fun p r e => s _ _ e⟩
theorem RowsM.read {K : PySem.W.Frag} {H : Hp} {a : Addr} {rs : List Row} (h : RowsM H a rs) : RowsL K H a rs := by
  obtain ⟨ps, h1, h2⟩ := h
  exact ⟨ps, SqL.of h1, h2⟩
/-! numbers by names -/
def wkv (ws : List (Str × Int)) : List (Key × V) := ws.map fun p => (Sum.inr p.1, V.int p.2)
def lookW (ws : List (Str × Int)) (n : Str) : Option Int := (ws.find? fun p => decide (p.1 = n)).map (·.2)
theorem valV_wkv (n : Str) : ∀ ws : List (Str × Int), valV (wkv ws) (Sum.inr n) = (lookW ws n).map V.int
  | [] => rfl
  | p :: r => by
    have ih := valV_wkv n r
    by_cases e : p.1 = n
    · rw [show wkv (p :: r) = (Sum.inr p.1, V.int p.2) :: wkv r from rfl, valV_pos (by rw [e])]
      unfold lookW
      rw [List.find?_cons_of_pos (by simpa using e)]
      rfl
    · rw [show wkv (p :: r) = (Sum.inr p.1, V.int p.2) :: wkv r from rfl, valV_neg (fun z => e (Sum.inr.inj z)), ih]
      unfold lookW
      rw [List.find?_cons_of_neg (by simpa using e)]
theorem lookW_hit {n : Str} {v : Int} {ws : List (Str × Int)} : lookW ((n, v) :: ws) n = some v := by
  unfold lookW
  rw [List.find?_cons_of_pos (by simp)]
  rfl
theorem lookW_skip {m n : Str} {v : Int} {ws : List (Str × Int)} (h : decide (m = n) = false) : lookW ((m, v) :: ws) n = lookW ws n := by
  unfold lookW
  rw [List.find?_cons_of_neg (by simpa using h)]
/-! what a gate tells -/
def bopI (o : Bop) (x y : Int) : Int := match o with
  | .and => x * y
  | .or => x + y - x * y
  | .xor => (x + y) % 2
def gateI (ws : List (Str × Int)) (bits : List Int) : Row → Int
  | .fix b => b
  | .inn n k => (lookW ws n).getD 0 / 2 ^ k % 2
  | .inv a => 1 - bits.getD a 0
  | .bin o a b => bopI o (bits.getD a 0) (bits.getD b 0)
  | .lat _ => 0
def is01 (x : Int) : Prop := x = 0 ∨ x = 1
def RowOk (N : Str → Prop) (n : Nat) : Row → Prop
  | .fix b => is01 b
  | .inn m k => N m ∧ k < 64
  | .inv a => a < n
  | .bin _ a b => a < n ∧ b < n
  | .lat a => a < n
def noLat : Row → Prop
  | .lat _ => False
  | _ => True
def RowsOk (N : Str → Prop) (rs : List Row) : Prop := ∀ (i : Nat) r, rs[i]? = some r → RowOk N i r
def NoLats (rs : List Row) : Prop := ∀ r ∈ rs, noLat r
/-- all names have numbers -/
def Has (N : Str → Prop) (ws : List (Str × Int)) : Prop := ∀ n, N n → ∃ v, lookW ws n = some v
def toldL (ws : List (Str × Int)) (rs : List Row) : List Int := rs.foldl (fun bits r => bits ++ [gateI ws bits r]) []
theorem toldL_snoc (ws : List (Str × Int)) (rs : List Row) (r : Row) : toldL ws (rs ++ [r]) = toldL ws rs ++ [gateI ws (toldL ws rs) r] := by
  unfold toldL
  rw [List.foldl_append]
  rfl
theorem take_snoc {α : Type} {xs : List α} {i : Nat} {x : α} (h : xs[i]? = some x) : xs.take (i + 1) = xs.take i ++ [x] := by
  rw [List.take_add_one, h]
  rfl
theorem toldL_len (ws : List (Str × Int)) (rs : List Row) : (toldL ws rs).length = rs.length := by
  have key : ∀ (rs : List Row) (acc : List Int), (rs.foldl (fun bits r => bits ++ [gateI ws bits r]) acc).length = acc.length + rs.length := by
    intro rs
    induction rs with
    | nil => intro acc; rfl
    | cons r rs ih =>
      intro acc
      rw [List.foldl_cons, ih, List.length_append, List.length_singleton, List.length_cons]
      omega
  unfold toldL
  rw [key]
  exact Nat.zero_add _
def All01 (bs : List Int) : Prop := ∀ x ∈ bs, is01 x
theorem all01_get {bs : List Int} (h : All01 bs) (i : Nat) : is01 (bs.getD i 0) := by
  rw [List.getD_eq_getElem?_getD]
  cases e : bs[i]? with
  | none => exact .inl rfl
  | some x => exact h x (List.mem_of_getElem? e)
theorem bopI_01 (o : Bop) {x y : Int} (hx : is01 x) (hy : is01 y) : is01 (bopI o x y) := by
  unfold is01 at *
  cases o <;> unfold bopI <;> rcases hx with rfl | rfl <;> rcases hy with rfl | rfl <;> decide
theorem gateI_01 {N : Str → Prop} {n : Nat} {r : Row} (ws : List (Str × Int)) {bs : List Int} (h : All01 bs) (ok : RowOk N n r) : is01 (gateI ws bs r) := by
  cases r with
  | fix b => exact ok
  | inn m k =>
    show (lookW ws m).getD 0 / 2 ^ k % 2 = 0 ∨ (lookW ws m).getD 0 / 2 ^ k % 2 = 1
    omega
  | inv a =>
    have q : bs.getD a 0 = 0 ∨ bs.getD a 0 = 1 := all01_get h a
    show 1 - bs.getD a 0 = 0 ∨ 1 - bs.getD a 0 = 1
    omega
  | bin o a b => exact bopI_01 o (all01_get h a) (all01_get h b)
  | lat a => exact .inl rfl
theorem toldL_01 {N : Str → Prop} (ws : List (Str × Int)) {rs : List Row} (ok : RowsOk N rs) : ∀ i, All01 (toldL ws (rs.take i))
  | 0 => fun x hx => by cases hx
  | i + 1 => by
    have ih := toldL_01 ws ok i
    cases e : rs[i]? with
    | none =>
      have : rs.take (i + 1) = rs.take i := by rw [List.take_add_one, e]; exact List.append_nil _
      rw [this]
      exact ih
    | some r =>
      rw [take_snoc e, toldL_snoc]
      intro x hx
      rcases List.mem_append.mp hx with q | q
      · exact ih x q
      · rw [List.mem_singleton.mp q]
        exact gateI_01 ws ih (ok i r e)
/-- a bit by its place -/
theorem bit_get {bs : List Int} {a : Nat} (h : a < bs.length) : atI (bs.map V.int) (a : Int) = some (.int (bs.getD a 0)) := by
  rw [get_int h, List.getD_eq_getElem?_getD, List.getElem?_eq_getElem h]
  rfl
/-! rows that are put -/
theorem rowAt_upd {H : Hp} {a p : Addr} {xs ys : List V} {r : Row} (h : H a = some (.lst xs)) (hp : RowAt H p r) : RowAt (upd H a (.lst ys)) p r := by
  have ne : p ≠ a := fun e => by
    rw [e] at hp
    exact absurd (hp.symm.trans h) (fun z => by cases z)
  show upd H a (.lst ys) p = _
  rw [upd_ne ne]
  exact hp
theorem RowsM.push {H : Hp} {a p : Addr} {rs : List Row} {r : Row} {ps : List Addr} (h : H a = some (.lst (ps.map V.ref))) (hA : A2 (RowAt H) ps rs) (hp : RowAt H p r) : RowsM (upd H a (.lst (ps.map V.ref ++ [.ref p]))) a (rs ++ [r]) :=
  ⟨ps ++ [p], by rw [upd_same, List.map_append]; rfl, (hA.mono fun _ _ e => rowAt_upd h e).snoc (rowAt_upd h hp)⟩
theorem RowsM.upd {H : Hp} {a b : Addr} {rs : List Row} {xs ys : List V} (ne : a ≠ b) (h : H b = some (.lst xs)) (hr : RowsM H a rs) : RowsM (upd H b (.lst ys)) a rs := by
  obtain ⟨ps, h1, h2⟩ := hr
  exact ⟨ps, by rw [upd_ne ne]; exact h1, h2.mono fun _ _ e => rowAt_upd h e⟩
theorem RowsM.len {H : Hp} {a : Addr} {rs : List Row} (h : RowsM H a rs) : ∃ ps : List Addr, H a = some (.lst (ps.map V.ref)) ∧ A2 (RowAt H) ps rs ∧ ps.length = rs.length := by
  obtain ⟨ps, h1, h2⟩ := h
  exact ⟨ps, h1, h2, h2.1⟩
theorem RowsOk.snoc {N : Str → Prop} {rs : List Row} {r : Row} (h : RowsOk N rs) (k : RowOk N rs.length r) : RowsOk N (rs ++ [r]) := by
  intro i x hx
  rcases Nat.lt_trichotomy i rs.length with q | q | q
  · rw [List.getElem?_append_left q] at hx
    exact h i x hx
  · subst q
    rw [List.getElem?_append_right (Nat.le_refl _), Nat.sub_self] at hx
    cases hx
    exact k
  · rw [List.getElem?_eq_none (by rw [List.length_append]; exact q)] at hx
    cases hx
theorem NoLats.snoc {rs : List Row} {r : Row} (h : NoLats rs) (k : noLat r) : NoLats (rs ++ [r]) := by
  intro x hx
  rcases List.mem_append.mp hx with q | q
  · exact h x q
  · rw [List.mem_singleton.mp q]
    exact k
/-! rows as data -/
def rowD : Row → PyData
  | .fix b => .tuple [.str "fix", .int b]
  | .inn n k => .tuple [.str "in", .str n, .int (k : Int)]
  | .inv a => .tuple [.str "not", .int (a : Int)]
  | .bin o a b => .tuple [.str (bopS o), .int (a : Int), .int (b : Int)]
  | .lat a => .tuple [.str "latch", .int (a : Int)]
theorem dp_row {K : PySem.W.Frag} {H : Hp} {p : Addr} {r : Row} (h : RowAt H p r) : Dp K H (.ref p) (rowD r) := by
  cases r with
  | fix b => exact .tup (SqT.of h) (.cons (.str _) (.cons (.int _) .nil))
  | inn n k => exact .tup (SqT.of h) (.cons (.str _) (.cons (.str _) (.cons (.int _) .nil)))
  | inv a => exact .tup (SqT.of h) (.cons (.str _) (.cons (.int _) .nil))
  | bin o a b => exact .tup (SqT.of h) (.cons (.str _) (.cons (.int _) (.cons (.int _) .nil)))
  | lat a => exact .tup (SqT.of h) (.cons (.str _) (.cons (.int _) .nil))
theorem A2.tail {α β : Type} {R : α → β → Prop} {x : α} {y : β} {xs : List α} {ys : List β} (h : A2 R (x :: xs) (y :: ys)) : R x y ∧ A2 R xs ys :=
  ⟨h.2 0 x y rfl rfl, by have := h.1; simp only [List.length_cons] at this; omega, fun i u v hu hv => h.2 (i + 1) u v hu hv⟩
theorem dp_rows {K : PySem.W.Frag} {H : Hp} : ∀ {ps : List Addr} {rs : List Row}, A2 (RowAt H) ps rs → DpAll K H (ps.map V.ref) (rs.map rowD)
  | [], [], _ => .nil
  | [], _ :: _, h => by have := h.1; simp at this
  | _ :: _, [], h => by have := h.1; simp at this
  | p :: ps, r :: rs, h => .cons (dp_row h.tail.1) (dp_rows h.tail.2)
def NmOk (r : Row) : Prop := match r with
  | .inn n _ => PyData.strOk n = true
  | _ => True
theorem lay_row {r : Row} (h : NmOk r) : PyData.canLay0 (rowD r) = true := by
  cases r with
  | fix b =>
    show (PyData.strOk "fix" && (true && true)) = true
    decide +kernel
  | inn n k =>
    show (PyData.strOk "in" && (PyData.strOk n && (true && true))) = true
    rw [show PyData.strOk n = true from h]
    decide +kernel
  | inv a =>
    show (PyData.strOk "not" && (true && true)) = true
    decide +kernel
  | bin o a b =>
    show (PyData.strOk (bopS o) && (true && (true && true))) = true
    cases o <;> decide +kernel
  | lat a =>
    show (PyData.strOk "latch" && (true && true)) = true
    decide +kernel
theorem lay_rows : ∀ {rs : List Row}, (∀ r ∈ rs, NmOk r) → PyData.canLayAll0 (rs.map rowD) = true
  | [], _ => rfl
  | r :: rs, h => by
    show (PyData.canLay0 (rowD r) && PyData.canLayAll0 (rs.map rowD)) = true
    rw [lay_row (h r (List.mem_cons_self ..)), lay_rows fun x hx => h x (List.mem_cons_of_mem _ hx)]
    rfl
theorem depth_row (r : Row) : PyData.depth (rowD r) ≤ 1 := by
  cases r <;> exact Nat.le_of_ble_eq_true rfl
theorem depth_rows : ∀ rs : List Row, PyData.depthAll (rs.map rowD) ≤ 1
  | [] => Nat.zero_le 1
  | r :: rs => Nat.max_le.mpr ⟨depth_row r, depth_rows rs⟩
theorem shaped_rows {rs : List Row} (h : ∀ r ∈ rs, NmOk r) : SeqAt.shaped (.list (rs.map rowD)) = true := by
  unfold SeqAt.shaped
  rw [show PyData.canLay0 (.list (rs.map rowD)) = true from lay_rows h, Bool.true_and]
  have := depth_rows rs
  exact decide_eq_true (show PyData.depthAll (rs.map rowD) + 1 ≤ 64 by omega)
/-! dicts of numbers compared, copied -/
theorem flat_wkv (ws : List (Str × Int)) : ∀ p ∈ wkv ws, flatB p.2 = true := by
  intro p hp
  obtain ⟨q, _, rfl⟩ := List.mem_map.mp hp
  rfl
theorem valV_self : ∀ {ws : List (Str × Int)}, (ws.map (·.1)).Nodup → ∀ p ∈ wkv ws, valV (wkv ws) p.1 = some p.2
  | [], _, p, hp => by cases hp
  | q :: r, h, p, hp => by
    obtain ⟨h1, h2⟩ := List.nodup_cons.mp (show (q.1 :: r.map (·.1)).Nodup from h)
    rcases List.mem_cons.mp hp with e | e
    · rw [e]
      exact valV_pos rfl
    · have ih := valV_self h2 p e
      obtain ⟨z, hz, rfl⟩ := List.mem_map.mp e
      have ne : ¬ q.1 = z.1 := fun w => h1 (by rw [w]; exact List.mem_map.mpr ⟨z, hz, rfl⟩)
      rw [show wkv (q :: r) = (Sum.inr q.1, V.int q.2) :: wkv r from rfl, valV_neg (fun w => ne (Sum.inr.inj w))]
      exact ih
theorem w_eqDict {H : Hp} {Q : VK} {a b : Addr} {ws : List (Str × Int)} (h1 : H a = some (.dK (wkv ws))) (h2 : H b = some (.dK (wkv ws))) (nd : (ws.map (·.1)).Nodup) (q : Q (.bl true) H) : rEqDA (.ref a) (.ref b) H Q :=
  ⟨a, b, _, _, rfl, rfl, h1, h2, rfl, fun p hp => ⟨valV_self nd p hp, flat_wkv ws p hp⟩, q⟩
theorem w_neDict {H : Hp} {Q : VK} {a b : Addr} {ws : List (Str × Int)} (h1 : H a = some (.dK (wkv ws))) (h2 : H b = some (.dK (wkv ws))) (nd : (ws.map (·.1)).Nodup) (q : Q (.bl false) H) : rNeDA (.ref a) (.ref b) H Q :=
  ⟨a, b, _, _, rfl, rfl, h1, h2, rfl, fun p hp => ⟨valV_self nd p hp, flat_wkv ws p hp⟩, q⟩
def rDictD : List V → Hp → VK → Prop := fun xs H Q => ∃ (a : Addr) (kvs : List (Key × V)), xs = [.ref a] ∧ Rd H a (.dK kvs) ∧ ∀ p, H p = none → Q (.ref p) (upd H p (.dK kvs))
theorem c_dictD {X : Cx} : CallR X (.type "dict") rDictD := call_dictD
theorem w_dictD {H : Hp} {Q : VK} {a : Addr} {kvs : List (Key × V)} (h : H a = some (.dK kvs)) (q : ∀ p H', H p = none → Same H H' → H' p = some (.dK kvs) → Q (.ref p) H') : rDictD [.ref a] H Q :=
  ⟨a, kvs, rfl, .inl h, fun p hp => q p _ hp (same_upd hp) upd_same⟩
/-! a written dict -/
def DspE (p : Addr) (Q : VK) (ps : List (V × V)) (H2 : Hp) : Prop := H2 p = some (.dK []) ∧ ∃ kvs : List (Key × V), ps = kvs.map (fun kv => (kV kv.1, kv.2)) ∧ kvs.length ≤ 15 ∧ Q (.ref p) (upd H2 p (.dK (mergeK [] kvs)))
theorem w_disp {σ : L2.St} {H : Hp} {Q : VK} {trs : List (TE × TE)} (h : ∀ p H', H p = none → Same H H' → H' p = some (.dK []) → tPairs trs σ H' fun ps H2 => DspE p Q ps H2) : tDisp trs σ H Q := fun p hp => h p _ hp (same_upd hp) upd_same
theorem w_pairs {σ : L2.St} {H : Hp} {tk tv : TE} {r : List (TE × TE)} {R : List (V × V) → Hp → Prop} (h : tk σ H fun x H1 => tv σ H1 fun y H2 => tPairs r σ H2 fun ps H3 => R ((x, y) :: ps) H3) : tPairs ((tk, tv) :: r) σ H R := h
theorem w_pairs0 {σ : L2.St} {H : Hp} {R : List (V × V) → Hp → Prop} (h : R [] H) : tPairs [] σ H R := h
theorem w_DspE {p : Addr} {Q : VK} {ps : List (V × V)} {H2 : Hp} (ws : List (Str × Int)) (nd : (ws.map (·.1)).Nodup) (e : H2 p = some (.dK [])) (ep : ps = (wkv ws).map (fun kv => (kV kv.1, kv.2))) (hl : ws.length ≤ 15) (q : ∀ H', H' p = some (.dK (wkv ws)) → (∀ H0, Same H0 H2 → H0 p = none → Same H0 H') → Q (.ref p) H') : DspE p Q ps H2 := by
  refine ⟨e, wkv ws, ep, by rw [wkv, List.length_map]; exact hl, ?_⟩
  have key : ∀ (r acc : List (Str × Int)), ((acc ++ r).map (·.1)).Nodup → mergeK (wkv acc) (wkv r) = wkv (acc ++ r) := by
    intro r
    induction r with
    | nil => intro acc _; rw [List.append_nil]; rfl
    | cons z r ih =>
      intro acc hn
      have hz : valV (wkv acc) (Sum.inr z.1) = none := by
        cases g : valV (wkv acc) (Sum.inr z.1) with
        | none => rfl
        | some v =>
          have m := valV_in g
          obtain ⟨u, hu, eu⟩ := List.mem_map.mp m
          obtain ⟨t, ht, rfl⟩ := List.mem_map.mp hu
          have e1 : t.1 = z.1 := Sum.inr.inj eu
          rw [List.map_append, List.map_cons] at hn
          have d := (List.nodup_append.mp hn).2.2 t.1 (List.mem_map.mpr ⟨t, ht, rfl⟩) z.1 (List.mem_cons_self ..)
          exact absurd e1 d
      show mergeK (putK (wkv acc) (Sum.inr z.1) (V.int z.2)) (wkv r) = _
      rw [putK_new _ hz]
      have e2 : wkv acc ++ [((Sum.inr z.1 : Key), V.int z.2)] = wkv (acc ++ [z]) := by
        unfold wkv
        rw [List.map_append]
        rfl
      rw [e2, ih (acc ++ [z]) (by rw [List.append_assoc]; exact hn), List.append_assoc]
      rfl
  have := key ws [] nd
  rw [show mergeK [] (wkv ws) = wkv ws from this]
  exact q _ upd_same fun H0 s n => same_mut s n
end Dpr

namespace Dpr
open PySem PySem.Spec PyProof.Rows L2
/-! a number put by its name -/
def putW (ws : List (Str × Int)) (n : Str) (v : Int) : List (Str × Int) :=
  if (ws.any fun kv => decide (kv.1 = n)) = true then ws.map (fun kv => if kv.1 = n then (kv.1, v) else kv) else ws ++ [(n, v)]
theorem put_wkv (ws : List (Str × Int)) (n : Str) (v : Int) : putK (wkv ws) (Sum.inr n) (V.int v) = wkv (putW ws n v) := by
  have e : ((wkv ws).any fun kv => decide (kv.1 = (Sum.inr n : Key))) = (ws.any fun kv => decide (kv.1 = n)) := by
    induction ws with
    | nil => rfl
    | cons p r ih =>
      show (decide ((Sum.inr p.1 : Key) = Sum.inr n) || (wkv r).any _) = (decide (p.1 = n) || r.any _)
      rw [ih]
      by_cases e : p.1 = n
      · rw [decide_eq_true e, decide_eq_true (by rw [e])]
      · rw [decide_eq_false e, decide_eq_false (fun z => e (Sum.inr.inj z))]
  unfold putK putW
  rw [e]
  split
  · unfold wkv
    rw [List.map_map, List.map_map]
    refine List.map_congr_left fun p _ => ?_
    show (if (Sum.inr p.1 : Key) = Sum.inr n then ((Sum.inr p.1 : Key), V.int v) else (Sum.inr p.1, V.int p.2)) = _
    by_cases e : p.1 = n
    · rw [if_pos (by rw [e])]
      show _ = (Sum.inr (if p.1 = n then (p.1, v) else p).1, V.int (if p.1 = n then (p.1, v) else p).2)
      rw [if_pos e]
    · rw [if_neg (fun z => e (Sum.inr.inj z))]
      show _ = (Sum.inr (if p.1 = n then (p.1, v) else p).1, V.int (if p.1 = n then (p.1, v) else p).2)
      rw [if_neg e]
  · unfold wkv
    rw [List.map_append]
    rfl
theorem putW_len (ws : List (Str × Int)) (n : Str) (v : Int) : (putW ws n v).length ≤ ws.length + 1 := by
  unfold putW
  split
  · rw [List.length_map]; omega
  · rw [List.length_append, List.length_cons, List.length_nil]; omega
theorem look_put (ws : List (Str × Int)) (n m : Str) (v : Int) : lookW (putW ws n v) m = if m = n then some v else lookW ws m := by
  have e := valV_wkv m (putW ws n v)
  rw [← put_wkv, valV_put, valV_wkv] at e
  by_cases h : m = n
  · rw [if_pos h]
    rw [if_pos (by rw [h])] at e
    cases g : lookW (putW ws n v) m with
    | none => rw [g] at e; cases e
    | some x => rw [g] at e; cases e; rfl
  · rw [if_neg h]
    rw [if_neg (fun z => h (Sum.inr.inj z))] at e
    cases g : lookW (putW ws n v) m with
    | none =>
      rw [g] at e
      cases g2 : lookW ws m with
      | none => rfl
      | some x => rw [g2] at e; cases e
    | some x =>
      rw [g] at e
      cases g2 : lookW ws m with
      | none => rw [g2] at e; cases e
      | some y => rw [g2] at e; cases e; rfl
theorem putW_keys {ws : List (Str × Int)} {n : Str} {v : Int} (h : (ws.any fun kv => decide (kv.1 = n)) = true) : (putW ws n v).map (·.1) = ws.map (·.1) := by
  unfold putW
  rw [if_pos h, List.map_map]
  refine List.map_congr_left fun p _ => ?_
  show (if p.1 = n then (p.1, v) else p).1 = p.1
  split <;> rfl
theorem putW_nodup {ws : List (Str × Int)} (n : Str) (v : Int) (h : (ws.map (·.1)).Nodup) : ((putW ws n v).map (·.1)).Nodup := by
  by_cases e : (ws.any fun kv => decide (kv.1 = n)) = true
  · rw [putW_keys e]
    exact h
  · unfold putW
    rw [if_neg e, List.map_append]
    refine List.nodup_append.mpr ⟨h, List.nodup_cons.mpr ⟨(fun z => by cases z), List.nodup_nil⟩, fun x hx y hy z => ?_⟩
    rw [List.mem_singleton.mp hy] at z
    obtain ⟨p, hp, ep⟩ := List.mem_map.mp hx
    exact e (List.any_eq_true.mpr ⟨p, hp, decide_eq_true (ep.trans z)⟩)
/-- names whose numbers are known -/
theorem has_put {N : Str → Prop} {ws : List (Str × Int)} {n : Str} {v : Int} (h : Has N ws) : Has (fun m => m = n ∨ N m) (putW ws n v) := by
  intro m hm
  rw [look_put]
  by_cases e : m = n
  · exact ⟨v, if_pos e⟩
  · rw [if_neg e]
    exact h m (hm.resolve_left e)
theorem Has.mono {N M : Str → Prop} {ws : List (Str × Int)} (h : Has N ws) (k : ∀ n, M n → N n) : Has M ws := fun n hn => h n (k n hn)
theorem has_keep {N : Str → Prop} {ws : List (Str × Int)} {n : Str} {v : Int} (h : Has N ws) : Has N (putW ws n v) := (has_put h).mono fun _ h => .inr h
def DPutB (D : Ends) (σ : L2.St) (v x y : V) (H3 : Hp) : Prop := ∃ a H4, x = .ref a ∧ DPut H3 a y v H4 ∧ D.nx σ H4
theorem w_dput {D : Ends} {σ : L2.St} {H : Hp} {td ty tv : TE} (h : tv σ H fun v H1 => td σ H1 fun x H2 => ty σ H2 fun y H3 => DPutB D σ v x y H3) : sDPut td ty tv D σ H := h
theorem w_DPutB {D : Ends} {σ : L2.St} {H : Hp} {a : Addr} {ws : List (Str × Int)} {n : Str} {v : Int} (h : H a = some (.dK (wkv ws))) (hl : ws.length ≤ 1000) (q : D.nx σ (upd H a (.dK (wkv (putW ws n v))))) : DPutB D σ (.int v) (.ref a) (.str n) H :=
  ⟨a, _, rfl, .k (k := Sum.inr n) h (by rw [wkv, List.length_map]; exact Nat.lt_of_le_of_lt hl (by rw [sizeLine_eq]; decide)), by rw [put_wkv]; exact q⟩
def rInsert : V → List V → Hp → VK → Prop := fun x vs H Q => ∃ (l : Addr) (xs : List V) (i : Int) (y : V), x = .ref l ∧ vs = [.int i, y] ∧ H l = some (.lst xs) ∧ xs.length < sizeLine ∧ 0 ≤ i ∧ i < 2 ^ 63 ∧ Q .non (upd H l (.lst (xs.take i.toNat ++ [y] ++ xs.drop i.toNat)))
theorem mt_ins0 {X : Cx} : MtR X "list.insert" rInsert := mt_insert
theorem w_insert {H : Hp} {Q : VK} {p : Addr} {xs : List V} {y : V} {i : Int} (e : H p = some (.lst xs)) (hz : xs.length ≤ 1000000) (hi : 0 ≤ i ∧ i ≤ 1000000) (q : Q .non (upd H p (.lst (xs.take i.toNat ++ [y] ++ xs.drop i.toNat)))) : rInsert (.ref p) [.int i, y] H Q :=
  ⟨p, xs, i, y, rfl, rfl, e, Nat.lt_of_le_of_lt hz (by rw [sizeLine_eq]; decide), hi.1, by omega, q⟩
theorem w_dnewK {σ : L2.St} {H : Hp} {Q : VK} (h : ∀ p H', H p = none → Same H H' → H' p = some (.dK (wkv [])) → Q (.ref p) H') : tDNewK σ H Q := fun p hp => h p _ hp (same_upd hp) upd_same
end Dpr

namespace Dpr
open PySem PySem.Spec PyProof.Rows L2
def RevB (R : It → Hp → Prop) (a b : Int) (H1 : Hp) : Prop := -(2 ^ 62) ≤ a ∧ a < 2 ^ 62 ∧ -(2 ^ 62) ≤ b ∧ b < 2 ^ 62 ∧ R (Itc (a + (((b - a).toNat : Nat) : Int) - 1) (-1) (b - a).toNat) H1
def RG1 (R : Int → Int → Hp → Prop) (x : V) (H1 : Hp) : Prop := ∃ i, x = .int i ∧ R 0 i H1
theorem w_revR {σ : L2.St} {H : Hp} {R : It → Hp → Prop} {tr : L2.St → Hp → (Int → Int → Hp → Prop) → Prop} (h : tr σ H (RevB R)) : iRevR tr σ H R := h
theorem w_rg1 {σ : L2.St} {H : Hp} {R : Int → Int → Hp → Prop} {ta : TE} (h : ta σ H (RG1 R)) : tRg1 ta σ H R := h
theorem w_RG1 {R : Int → Int → Hp → Prop} {b : Int} {H : Hp} (q : R 0 b H) : RG1 R (.int b) H := ⟨b, rfl, q⟩
theorem w_RevB {R : It → Hp → Prop} {a b : Int} {H : Hp} (h : -1000000 ≤ a ∧ a ≤ 1000000 ∧ -1000000 ≤ b ∧ b ≤ 1000000) (q : R (Itc (a + (((b - a).toNat : Nat) : Int) - 1) (-1) (b - a).toNat) H) : RevB R a b H := ⟨by omega, by omega, by omega, by omega, q⟩
theorem for_rc {lo c : Int} {n j : Nat} {t : TS} {D : Ends} {σ : L2.St} {H : Hp} (Pv : Nat → L2.St → Hp → Prop) (h0 : Pv 0 σ H)
    (hs : ∀ (i : Nat) σ' H', i < n → Pv i σ' H' → t { D with nx := Pv (i + 1), ct := Pv (i + 1), bk := D.nx } (σ'.set j (some (.int (lo + (i : Nat) * c)))) H') (hd : ∀ σ' H', Pv n σ' H' → D.nx σ' H') : ForB (Itc lo c n) (gName j) t D σ H :=
  for_rangeC Pv h0 hs hd
end Dpr

namespace Dpr
open PySem PySem.Spec PyProof.Rows L2
/-! a row from its second part on, the greatest of a list -/
theorem w_slT1 {K : PySem.W.Frag} {H : Hp} {Q : VK} {p : Addr} {x : V} {r : List V} (h : SqT K H p (x :: r)) (q : ∀ l H', H l = none → Same H H' → H' l = some (.tup r) → Q (.ref l) H') : rSlT K (.ref p) (some 1) none H Q := by
  refine ⟨p, _, rfl, h, fun z => ?_, fun l hl => ?_⟩
  · have e := z.1
    rw [show (1 : Int) = ((1 : Nat) : Int) from rfl, HT.sIx_nat, List.length_cons] at e
    omega
  · have e : cutV (x :: r) (some 1) none = r := cut_from (x :: r) 1 (by rw [List.length_cons]; omega)
    rw [e]
    exact q l _ hl (same_upd hl) upd_same
theorem w_maxL {K : PySem.W.Frag} {H : Hp} {Q : VK} {p : Addr} {ns : List Int} (h : SqL K H p (ns.map V.int)) (hn : 0 < ns.length) (q : ∀ m, m ∈ ns → (∀ y ∈ ns, y ≤ m) → Q (.int m) H) : rMax K [.ref p] H Q := ⟨p, ns, rfl, h, hn, q⟩
theorem c_maxK {X : Cx} (K : PySem.W.Frag) (e : X.K = K := by rfl) (hc : X.calm = true := by rfl) : CallR X (.builtin "max") (rMax K) := by subst e; exact cr_max hc
/-! lists told row by row -/
def runL (f : List Int → Row → Int) (rs : List Row) : List Int := rs.foldl (fun a r => a ++ [f a r]) []
theorem runL_snoc (f : List Int → Row → Int) (rs : List Row) (r : Row) : runL f (rs ++ [r]) = runL f rs ++ [f (runL f rs) r] := by
  unfold runL
  rw [List.foldl_append]
  rfl
theorem runL_len (f : List Int → Row → Int) (rs : List Row) : (runL f rs).length = rs.length := by
  have key : ∀ (rs : List Row) (acc : List Int), (rs.foldl (fun a r => a ++ [f a r]) acc).length = acc.length + rs.length := by
    intro rs
    induction rs with
    | nil => intro acc; rfl
    | cons r rs ih =>
      intro acc
      rw [List.foldl_cons, ih, List.length_append, List.length_singleton, List.length_cons]
      omega
  unfold runL
  rw [key]
  exact Nat.zero_add _
theorem runL_take (f : List Int → Row → Int) (rs : List Row) (i : Nat) : runL f (rs.take i) = (runL f rs).take i := by
  rcases Nat.le_total rs.length i with h | h
  · rw [List.take_of_length_le h, List.take_of_length_le (by rw [runL_len]; exact h)]
  · have key : ∀ (ss acc : List Int) (rs : List Row), ∃ t, rs.foldl (fun a r => a ++ [f a r]) acc = acc ++ t := by
      intro ss acc rs
      induction rs generalizing acc with
      | nil => exact ⟨[], (List.append_nil _).symm⟩
      | cons r rs ih =>
        obtain ⟨t, e⟩ := ih (acc ++ [f acc r])
        exact ⟨[f acc r] ++ t, by rw [List.foldl_cons, e, List.append_assoc]⟩
    obtain ⟨t, e⟩ := key [] (runL f (rs.take i)) (rs.drop i)
    have e2 : runL f rs = runL f (rs.take i) ++ t := by
      rw [← e]
      show rs.foldl _ [] = (rs.drop i).foldl _ ((rs.take i).foldl _ [])
      rw [← List.foldl_append, List.take_append_drop]
    rw [e2, List.take_left' (by rw [runL_len, List.length_take]; omega)]
theorem runL_get (f : List Int → Row → Int) {rs : List Row} {i : Nat} {r : Row} (h : rs[i]? = some r) : (runL f rs)[i]? = some (f ((runL f rs).take i) r) := by
  have hi := (List.getElem?_eq_some_iff.mp h).1
  have e : (runL f rs).take (i + 1) = (runL f rs).take i ++ [f ((runL f rs).take i) r] := by
    rw [← runL_take, take_snoc h, runL_snoc, runL_take]
  have hl : ((runL f rs).take i).length = i := by rw [List.length_take, runL_len]; omega
  have e2 : ((runL f rs).take (i + 1))[i]? = some (f ((runL f rs).take i) r) := by
    rw [e, List.getElem?_append_right (by omega), hl, Nat.sub_self]
    rfl
  rw [List.getElem?_take, if_pos (Nat.lt_succ_self i)] at e2
  exact e2
/-! depths -/
def ownR : Row → List Nat
  | .inv a => [a]
  | .bin _ a b => [a, b]
  | _ => []
def natI (ws : List Nat) : List Int := ws.map fun (z : Nat) => (z : Int)
theorem natI_len (ws : List Nat) : (natI ws).length = ws.length := List.length_map ..
theorem natI_get {ws : List Nat} {i : Nat} {x : Int} (h : (natI ws)[i]? = some x) : ∃ z : Nat, ws[i]? = some z ∧ x = (z : Int) := by
  unfold natI at h
  rw [List.getElem?_map] at h
  cases e : ws[i]? with
  | none => rw [e] at h; cases h
  | some y => rw [e] at h; exact ⟨y, rfl, (Option.some.inj h).symm⟩
def top2 (x y : Int) : Int := if y > x then y else x
def deepI (ds : List Int) (r : Row) : Int := (ownR r).foldl (fun d w => top2 d (ds.getD w 0 + 1)) 0
def depthL (rs : List Row) : List Int := runL deepI rs
theorem own_lt {N : Str → Prop} {i : Nat} {r : Row} (h : RowOk N i r) : ∀ w ∈ ownR r, w < i := by
  intro w hw
  cases r with
  | inv a => rw [List.mem_singleton.mp hw]; exact h
  | bin o a b =>
    rcases List.mem_cons.mp hw with e | e
    · rw [e]; exact h.1
    · rw [List.mem_singleton.mp e]; exact h.2
  | _ => cases hw
theorem own_len (r : Row) : (ownR r).length ≤ 2 := by
  cases r <;> exact Nat.le_of_ble_eq_true rfl
theorem top_of (g : Nat → Int) : ∀ (ws : List Nat) (x m : Int), m ∈ x :: ws.map g → (∀ y ∈ x :: ws.map g, y ≤ m) → m = ws.foldl (fun d w => top2 d (g w)) x
  | [], x, m, h, _ => List.mem_singleton.mp h
  | w :: r, x, m, h, hm => by
    show m = r.foldl (fun d w => top2 d (g w)) (top2 x (g w))
    have a1 := hm x (List.mem_cons_self ..)
    have a2 := hm (g w) (List.mem_cons_of_mem _ (List.mem_cons_self ..))
    refine top_of g r _ m ?_ fun y hy => ?_
    · unfold top2
      rcases List.mem_cons.mp h with e | e
      · subst e
        rw [if_neg (by omega)]
        exact List.mem_cons_self ..
      · rcases List.mem_cons.mp e with e | e
        · by_cases c : g w > x
          · rw [if_pos c, e]
            exact List.mem_cons_self ..
          · rw [if_neg c, show m = x by omega]
            exact List.mem_cons_self ..
        · exact List.mem_cons_of_mem _ e
    · rcases List.mem_cons.mp hy with e | e
      · rw [e]
        unfold top2
        split
        · exact a2
        · exact a1
      · exact hm y (List.mem_cons_of_mem _ (List.mem_cons_of_mem _ e))
end Dpr

namespace Dpr
open PySem PySem.Spec PyProof.Rows L2
/-! ways -/
def dep (rs : List Row) (x : Nat) : Int := (depthL rs).getD x 0
theorem fold_top (g : Nat → Int) : ∀ (ws : List Nat) (x : Int), ws.foldl (fun d w => top2 d (g w)) x = x ∨ ∃ w ∈ ws, ws.foldl (fun d w => top2 d (g w)) x = g w
  | [], x => .inl rfl
  | w :: r, x => by
    show r.foldl (fun d w => top2 d (g w)) (top2 x (g w)) = x ∨ ∃ z ∈ w :: r, r.foldl (fun d w => top2 d (g w)) (top2 x (g w)) = g z
    rcases fold_top g r (top2 x (g w)) with e | ⟨z, hz, e⟩
    · rw [e]
      unfold top2
      split
      · exact .inr ⟨w, List.mem_cons_self .., rfl⟩
      · exact .inl rfl
    · exact .inr ⟨z, List.mem_cons_of_mem _ hz, e⟩
theorem fold_top_le (g : Nat → Int) : ∀ (ws : List Nat) (x : Int), x ≤ ws.foldl (fun d w => top2 d (g w)) x ∧ ∀ w ∈ ws, g w ≤ ws.foldl (fun d w => top2 d (g w)) x
  | [], x => ⟨Int.le_refl _, fun w h => by cases h⟩
  | w :: r, x => by
    have ih := fold_top_le g r (top2 x (g w))
    have t1 : x ≤ top2 x (g w) ∧ g w ≤ top2 x (g w) := by unfold top2; split <;> omega
    refine ⟨Int.le_trans t1.1 ih.1, fun z hz => ?_⟩
    rcases List.mem_cons.mp hz with e | e
    · rw [e]; exact Int.le_trans t1.2 ih.1
    · exact ih.2 z e
theorem fold_congr {g h : Nat → Int} : ∀ (ws : List Nat) (x : Int), (∀ w ∈ ws, g w = h w) → ws.foldl (fun d w => top2 d (g w)) x = ws.foldl (fun d w => top2 d (h w)) x
  | [], _, _ => rfl
  | w :: r, x, e => by
    show r.foldl (fun d w => top2 d (g w)) (top2 x (g w)) = r.foldl (fun d w => top2 d (h w)) (top2 x (h w))
    rw [e w (List.mem_cons_self ..)]
    exact fold_congr r _ fun z hz => e z (List.mem_cons_of_mem _ hz)
theorem dep_eq {N : Str → Prop} {rs : List Row} (ok : RowsOk N rs) {x : Nat} {r : Row} (h : rs[x]? = some r) : dep rs x = (ownR r).foldl (fun d w => top2 d (dep rs w + 1)) 0 := by
  unfold dep
  have e := runL_get deepI h
  rw [List.getD_eq_getElem?_getD]
  show ((runL deepI rs)[x]?).getD 0 = _
  rw [e]
  show deepI ((runL deepI rs).take x) r = _
  unfold deepI
  refine fold_congr _ _ fun w hw => ?_
  have hlt := own_lt (ok x r h) w hw
  show ((runL deepI rs).take x).getD w 0 + 1 = (runL deepI rs).getD w 0 + 1
  rw [List.getD_eq_getElem?_getD, List.getD_eq_getElem?_getD, List.getElem?_take, if_pos hlt]
theorem dep_nn {N : Str → Prop} {rs : List Row} (ok : RowsOk N rs) (x : Nat) : 0 ≤ dep rs x := by
  cases e : rs[x]? with
  | some r => rw [dep_eq ok e]; exact (fold_top_le _ _ _).1
  | none =>
    have h : rs.length ≤ x := List.getElem?_eq_none_iff.mp e
    unfold dep
    rw [List.getD_eq_getElem?_getD, List.getElem?_eq_none (by show (runL deepI rs).length ≤ x; rw [runL_len]; exact h)]
    exact Int.le_refl 0
theorem dep_le {N : Str → Prop} {rs : List Row} (ok : RowsOk N rs) : ∀ (n x : Nat), x < n → dep rs x ≤ x
  | 0, x, h => by omega
  | n + 1, x, h => by
    cases e : rs[x]? with
    | some r =>
      rw [dep_eq ok e]
      rcases fold_top (fun z => dep rs z + 1) (ownR r) 0 with q | ⟨z, hz, q⟩
      · rw [q]; omega
      · rw [q]
        have hlt := own_lt (ok x r e) z hz
        have ih := dep_le ok n z (by omega)
        omega
    | none =>
      have h : rs.length ≤ x := List.getElem?_eq_none_iff.mp e
      unfold dep
      rw [List.getD_eq_getElem?_getD, List.getElem?_eq_none (by show (runL deepI rs).length ≤ x; rw [runL_len]; exact h)]
      show (0 : Int) ≤ x
      omega
def Way (rs : List Row) (w : Nat) (ws : List Nat) : Prop := ws[0]? = some w ∧ (∀ (k x y : Nat), ws[k]? = some x → ws[k + 1]? = some y → ∃ r, rs[x]? = some r ∧ y ∈ ownR r) ∧ ∀ (k x : Nat), ws[k]? = some x → x < rs.length ∧ dep rs x = dep rs w - k
theorem Way.one {rs : List Row} {w : Nat} (h : w < rs.length) : Way rs w [w] :=
  ⟨rfl, fun k x y _ hy => (by cases hy), fun k x hx => (by
    cases k with
    | zero => cases hx; exact ⟨h, by omega⟩
    | succ k => cases hx)⟩
theorem Way.snoc {rs : List Row} {w x y : Nat} {us : List Nat} {r : Row} (h : Way rs w (us ++ [x])) (hr : rs[x]? = some r) (hy : y ∈ ownR r) (hl : y < rs.length) (hd : dep rs y = dep rs x - 1) : Way rs w (us ++ [x] ++ [y]) := by
  have hux : (us ++ [x])[us.length]? = some x := by rw [List.getElem?_append_right (Nat.le_refl _), Nat.sub_self]; rfl
  have hlen : (us ++ [x]).length = us.length + 1 := by rw [List.length_append]; rfl
  refine ⟨by rw [List.getElem?_append_left (by omega)]; exact h.1, fun k a b ha hb => ?_, fun k a ha => ?_⟩
  · have hb' := (List.getElem?_eq_some_iff.mp hb).1
    rw [List.length_append, List.length_singleton, hlen] at hb'
    by_cases e : k + 1 < us.length + 1
    · rw [List.getElem?_append_left (by omega)] at ha hb
      exact h.2.1 k a b ha hb
    · have ek : k = us.length := by omega
      subst ek
      rw [List.getElem?_append_left (by omega), hux] at ha
      cases ha
      rw [List.getElem?_append_right (by omega), hlen, Nat.sub_self] at hb
      cases hb
      exact ⟨r, hr, hy⟩
  · have ha' := (List.getElem?_eq_some_iff.mp ha).1
    rw [List.length_append, List.length_singleton, hlen] at ha'
    by_cases e : k < us.length + 1
    · rw [List.getElem?_append_left (by omega)] at ha
      exact h.2.2 k a ha
    · have ek : k = us.length + 1 := by omega
      subst ek
      rw [List.getElem?_append_right (by omega), hlen, Nat.sub_self] at ha
      cases ha
      have hx := (h.2.2 us.length x hux).2
      exact ⟨hl, by omega⟩
/-- a way from its first wire on -/
def WayR (rs : List Row) (w : Nat) (ws : List Nat) : Prop := (ws.length : Int) = dep rs w + 1 ∧ (∀ x ∈ ws, x < rs.length) ∧ (∀ (k x y : Nat), ws[k]? = some y → ws[k + 1]? = some x → ∃ r, rs[x]? = some r ∧ y ∈ ownR r) ∧ (∃ us, ws = us ++ [w]) ∧ ∃ z, ws[0]? = some z ∧ dep rs z = 0
theorem Way.rev {rs : List Row} {w x : Nat} {us : List Nat} (h : Way rs w (us ++ [x])) (hx : dep rs x = 0) : WayR rs w (us ++ [x]).reverse := by
  have hux : (us ++ [x])[us.length]? = some x := by rw [List.getElem?_append_right (Nat.le_refl _), Nat.sub_self]; rfl
  have hlen : (us ++ [x]).length = us.length + 1 := by rw [List.length_append]; rfl
  have h0 := (h.2.2 us.length x hux).2
  refine ⟨by rw [List.length_reverse, hlen]; omega, fun z hz => ?_, fun k a b ha hb => ?_, ?_, x, ?_, hx⟩
  · obtain ⟨k, hk⟩ := List.mem_iff_getElem?.mp (List.mem_reverse.mp hz)
    exact (h.2.2 k z hk).1
  · have hb' := (List.getElem?_eq_some_iff.mp hb).1
    rw [List.length_reverse, hlen] at hb'
    rw [List.getElem?_reverse (by omega), hlen] at ha hb
    refine h.2.1 (us.length - (k + 1)) a b ?_ ?_
    · rw [show us.length - (k + 1) = us.length + 1 - 1 - (k + 1) by omega]; exact hb
    · rw [show us.length - (k + 1) + 1 = us.length + 1 - 1 - k by omega]; exact ha
  · have e := h.1
    cases us with
    | nil => cases e; exact ⟨[], rfl⟩
    | cons u us =>
      cases e
      exact ⟨(us ++ [x]).reverse, by rw [List.cons_append, List.reverse_cons]⟩
  · rw [List.getElem?_reverse (by omega), hlen]
    exact hux
theorem nat_last (us : List Nat) (x : Nat) : atI ((natI (us ++ [x])).map V.int) (-1) = some (.int (x : Int)) := by
  unfold natI
  rw [List.map_append, List.map_append]
  exact atI_last _ _
theorem nat_at {ws : List Nat} {k x : Nat} (h : ws[k]? = some x) : atI ((natI ws).map V.int) (k : Int) = some (.int (x : Int)) := atI_nat (by
  unfold natI
  rw [List.map_map, List.getElem?_map, h]
  rfl)
theorem nat_snoc (ws : List Nat) (x : Nat) : (natI ws).map V.int ++ [V.int (x : Int)] = (natI (ws ++ [x])).map V.int := by
  unfold natI
  rw [List.map_append, List.map_append]
  rfl
theorem nat_rev (ws : List Nat) : ((natI ws).map V.int).reverse = (natI ws.reverse).map V.int := by
  unfold natI
  rw [List.map_reverse, List.map_reverse]
end Dpr

namespace Dpr
open PySem PySem.Spec PyProof.Rows L2
theorem ib_abs (x : Int) (n : Nat) : Builtin.Int.intBits x ≤ n ↔ x.natAbs < 2 ^ n := by
  have e : Builtin.Int.intBits x = Builtin.Int.intBits (x.natAbs : Int) := by
    unfold Builtin.Int.intBits
    by_cases h : x = 0
    · subst h; rfl
    · rw [if_neg (by simpa using h), if_neg (by simpa using h)]
      rfl
  rw [e, ib_le (by omega) n]
  rw [show ((2 : Int) ^ n) = ((2 ^ n : Nat) : Int) by rw [Int.natCast_pow]; rfl]
  exact Int.ofNat_lt
theorem bits_add {c j : Int} {n : Nat} (h : Builtin.Int.intBits c ≤ n) (hj : Builtin.Int.intBits j ≤ n) : Builtin.Int.intBits (c + j) ≤ n + 1 := by
  rw [ib_abs] at *
  rw [Nat.pow_succ]
  omega
/-! beats -/
def beatI (ws : List (Str × Int)) (prev bits : List Int) (r : Row) : Int := match r with
  | .lat a => prev.getD a 0
  | r => gateI ws bits r
def beatL (rs : List Row) (prev : List Int) (ws : List (Str × Int)) : List Int := runL (beatI ws prev) rs
def beatsL (rs : List Row) (wss : List (List (Str × Int))) : List (List Int) := wss.foldl (fun acc ws => acc ++ [beatL rs (acc.getLastD []) ws]) []
theorem beatsL_snoc (rs : List Row) (wss : List (List (Str × Int))) (ws : List (Str × Int)) : beatsL rs (wss ++ [ws]) = beatsL rs wss ++ [beatL rs ((beatsL rs wss).getLastD []) ws] := by
  unfold beatsL
  rw [List.foldl_append]
  rfl
theorem beat_01 {N : Str → Prop} {n : Nat} {r : Row} (ws : List (Str × Int)) {prev bs : List Int} (hp : All01 prev) (h : All01 bs) (ok : RowOk N n r) : is01 (beatI ws prev bs r) := by
  cases r with
  | lat a => exact all01_get hp a
  | fix b => exact gateI_01 (r := .fix b) ws h ok
  | inn m k => exact gateI_01 (r := .inn m k) ws h ok
  | inv a => exact gateI_01 (r := .inv a) ws h ok
  | bin o a b => exact gateI_01 (r := .bin o a b) ws h ok
theorem beatL_01 {N : Str → Prop} (ws : List (Str × Int)) {prev : List Int} (hp : All01 prev) {rs : List Row} (ok : RowsOk N rs) : ∀ i, All01 (runL (beatI ws prev) (rs.take i))
  | 0 => fun x hx => by cases hx
  | i + 1 => by
    have ih := beatL_01 ws hp ok i
    cases e : rs[i]? with
    | none =>
      have : rs.take (i + 1) = rs.take i := by rw [List.take_add_one, e]; exact List.append_nil _
      rw [this]
      exact ih
    | some r =>
      rw [take_snoc e, runL_snoc]
      intro x hx
      rcases List.mem_append.mp hx with q | q
      · exact ih x q
      · rw [List.mem_singleton.mp q]
        exact beat_01 ws hp ih (ok i r e)
theorem A2.mono2 {α β : Type} {R S : α → β → Prop} {xs : List α} {ys : List β} (h : A2 R xs ys) (k : ∀ x y, x ∈ xs → R x y → S x y) : A2 S xs ys := ⟨h.1, fun i x y a b => k x y (List.mem_of_getElem? a) (h.2 i x y a b)⟩
def DictAt (H : Hp) (p : Addr) (ws : List (Str × Int)) : Prop := H p = some (.dK (wkv ws))
def IntsAt (H : Hp) (p : Addr) (bs : List Int) : Prop := H p = some (.lst (bs.map V.int))
def DictsL (K : PySem.W.Frag) (H : Hp) (a : Addr) (wss : List (List (Str × Int))) : Prop := ∃ ps : List Addr, SqL K H a (ps.map V.ref) ∧ A2 (DictAt H) ps wss
/-- what stood at the beat before: nothing, or a list -/
def Before (H : Hp) (n : Nat) (prev : List Int) (bv : V) : Prop := (bv = .non ∧ prev = []) ∨ ∃ q, bv = .ref q ∧ IntsAt H q prev ∧ prev.length = n
theorem Before.same {H H' : Hp} {n : Nat} {prev : List Int} {bv : V} (s : Same H H') (h : Before H n prev bv) : Before H' n prev bv := by
  rcases h with h | ⟨q, h1, h2, h3⟩
  · exact .inl h
  · exact .inr ⟨q, h1, s _ _ h2, h3⟩
def rIsNo : R2 := fun x y H Q => y = .non ∧ Q (.bl (decide (x = .non))) H
def rNotNo : R2 := fun x y H Q => y = .non ∧ Q (.bl (!decide (x = .non))) H
theorem op_isNo {X : Cx} : OpR X (compareOp .Is) rIsNo := op_isN
theorem op_notNo {X : Cx} : OpR X (compareOp .IsNot) rNotNo := op_notN
theorem w_isNo1 {H : Hp} {Q : VK} (h : Q (.bl true) H) : rIsNo .non .non H Q := ⟨rfl, h⟩
theorem w_isNo0 {p : Addr} {H : Hp} {Q : VK} (h : Q (.bl false) H) : rIsNo (.ref p) .non H Q := ⟨rfl, by rw [decide_eq_false (fun z => by cases z)]; exact h⟩
theorem w_notNo1 {H : Hp} {Q : VK} (h : Q (.bl false) H) : rNotNo .non .non H Q := ⟨rfl, h⟩
theorem w_notNo0 {p : Addr} {H : Hp} {Q : VK} (h : Q (.bl true) H) : rNotNo (.ref p) .non H Q := ⟨rfl, by rw [decide_eq_false (fun z => by cases z)]; exact h⟩
end Dpr

namespace Dpr
open PySem PySem.Spec PyProof.Rows L2
/-! objects of the program's classes -/
def IsC (K : PySem.W.Frag) (c : Str) (C : Addr) : Prop := PySem.W.nsIn K mainGlobals c = some (some (.ref C))
theorem IsC.one {K : PySem.W.Frag} {c : Str} {C D : Addr} (h : IsC K c C) (k : IsC K c D) : C = D := by
  unfold IsC at h k
  rw [h] at k
  cases k
  rfl
theorem lookup_hd {f : Str} {v : V} {r : List (Str × V)} : ((f, v) :: r).lookup f = some v := List.lookup_cons_self ..
theorem lookup_tl {f g : Str} {v : V} {r : List (Str × V)} {o : Option V} (h : (f == g) = false) (k : r.lookup f = o) : ((g, v) :: r).lookup f = o := by
  rw [List.lookup_cons, h]
  exact k
theorem lookup_no {f : Str} : ([] : List (Str × V)).lookup f = none := rfl
section
variable {K : PySem.W.Frag} {σ : L2.St} {H : Hp} {Q : VK} {D : Ends} {ta tv : TE} {t : TA} {f m : Str}
def FldB (K : PySem.W.Frag) (f : Str) (Q : VK) (x : V) (H1 : Hp) : Prop := ∃ a C dx fs v, x = .ref a ∧ H1 a = some (.ins C dx fs) ∧ Cls K C ∧ NoAttr K C f ∧ fs.lookup f = some v ∧ Q v H1
theorem w_fld (h : ta σ H (FldB K f Q)) : tFld K ta f σ H Q := h
theorem w_FldB {a C dx : Addr} {fs : List (Str × V)} {v : V} (h : H a = some (.ins C dx fs)) (c : Cls K C) (n : NoAttr K C f) (e : fs.lookup f = some v) (q : Q v H) : FldB K f Q (.ref a) H := ⟨a, C, dx, fs, v, rfl, h, c, n, e, q⟩
def SFldB (K : PySem.W.Frag) (f : Str) (D : Ends) (σ : L2.St) (y x : V) (H2 : Hp) : Prop := ∃ a C dx fs, x = .ref a ∧ H2 a = some (.ins C dx fs) ∧ Cls K C ∧ NoAttr K C f ∧ fs.length < 1000 ∧ D.nx σ (upd H2 a (.ins C dx (putF f y fs)))
theorem w_sfld (h : tv σ H fun y H1 => ta σ H1 fun x H2 => SFldB K f D σ y x H2) : sFld K ta tv f D σ H := h
theorem w_SFldB {a C dx : Addr} {fs : List (Str × V)} {y : V} (h : H a = some (.ins C dx fs)) (c : Cls K C) (n : NoAttr K C f) (l : fs.length < 1000) (q : D.nx σ (upd H a (.ins C dx (putF f y fs)))) : SFldB K f D σ y (.ref a) H := ⟨a, C, dx, fs, rfl, h, c, n, l, q⟩
def MethB (C : Addr) (m : Str) (sp : Sp) (dvs : List V) (E : XK) (t : TA) (σ : L2.St) (Q : VK) (x : V) (H1 : Hp) : Prop := ∃ a dx fs, x = .ref a ∧ H1 a = some (.ins C dx fs) ∧ fs.lookup m = none ∧ t σ H1 fun vs H2 => sp (x :: (vs ++ dvs)) H2 Q E
theorem w_meth {C : Addr} {sp : Sp} {dvs : List V} {E : XK} (h : ta σ H (MethB C m sp dvs E t σ Q)) : tMeth C m sp dvs E ta t σ H Q := h
theorem w_MethB {C a dx : Addr} {fs : List (Str × V)} {sp : Sp} {dvs : List V} {E : XK} (h : H a = some (.ins C dx fs)) (e : fs.lookup m = none) (q : t σ H fun vs H2 => sp (.ref a :: (vs ++ dvs)) H2 Q E) : MethB C m sp dvs E t σ Q (.ref a) H := ⟨a, dx, fs, rfl, h, e, q⟩
theorem w_make {C : Addr} {sp : Sp} {dvs : List V} {E : XK} (h : t σ H fun vs H1 => ∀ x dx, H1 x = none → H1 dx = none → dx ≠ x → sp (.ref x :: (vs ++ dvs)) (upd (upd H1 dx (.own x)) x (.ins C dx [])) (fun v H2 => v = .non ∧ Q (.ref x) H2) E) : tMake C sp dvs E t σ H Q := h
end
/-- a sheet, its rows at r -/
def SheetAt (K : PySem.W.Frag) (H : Hp) (s r : Addr) : Prop := ∃ C dx, H s = some (.ins C dx [("rows", .ref r)]) ∧ IsC K "Sheet" C
end Dpr

namespace Dpr
open PySem PySem.Spec PyProof.Rows L2
/-! rows as keys of a dict -/
def rowK : Row → List Key
  | .fix b => [.inr "fix", .inl b]
  | .inn n k => [.inr "in", .inr n, .inl (k : Int)]
  | .inv a => [.inr "not", .inl (a : Int)]
  | .bin o a b => [.inr (bopS o), .inl (a : Int), .inl (b : Int)]
  | .lat a => [.inr "latch", .inl (a : Int)]
theorem rowK_V (r : Row) : rowV r = (rowK r).map kV := by cases r <;> rfl
theorem bopS_inj {o p : Bop} (h : bopS o = bopS p) : o = p := by
  cases o <;> cases p <;> first | rfl | exact absurd h (by decide +kernel)
theorem bopS_odd (o : Bop) : bopS o ≠ "fix" ∧ bopS o ≠ "in" ∧ bopS o ≠ "not" ∧ bopS o ≠ "latch" := by
  cases o <;> decide +kernel
theorem rowK_inj {r t : Row} (h : rowK r = rowK t) : r = t := by
  have f1 : ("fix" : Str) ≠ "not" := by decide +kernel
  have f2 : ("fix" : Str) ≠ "latch" := by decide +kernel
  have f3 : ("not" : Str) ≠ "latch" := by decide +kernel
  have f4 : ("in" : Str) ≠ "fix" := by decide +kernel
  cases r with
  | fix b =>
    cases t with
    | fix c => unfold rowK at h; simp only [List.cons.injEq, Sum.inl.injEq, and_true, true_and] at h; rw [h]
    | inn n k => cases congrArg List.length h
    | inv a => exact absurd (Sum.inr.inj (List.cons.inj h).1) f1
    | bin o a c => cases congrArg List.length h
    | lat a => exact absurd (Sum.inr.inj (List.cons.inj h).1) f2
  | inn n k =>
    cases t with
    | inn m j =>
      unfold rowK at h
      simp only [List.cons.injEq, Sum.inl.injEq, Sum.inr.injEq, and_true, true_and] at h
      obtain ⟨h1, h2⟩ := h
      rw [h1, show k = j by omega]
    | bin o a c => exact absurd (Sum.inr.inj (List.cons.inj h).1).symm (bopS_odd o).2.1
    | _ => cases congrArg List.length h
  | inv a =>
    cases t with
    | fix c => exact absurd (Sum.inr.inj (List.cons.inj h).1).symm f1
    | inv c => unfold rowK at h; simp only [List.cons.injEq, Sum.inl.injEq, and_true, true_and] at h; rw [show a = c by omega]
    | lat c => exact absurd (Sum.inr.inj (List.cons.inj h).1) f3
    | _ => cases congrArg List.length h
  | bin o a b =>
    cases t with
    | inn m j => exact absurd (Sum.inr.inj (List.cons.inj h).1) (bopS_odd o).2.1
    | bin p c d =>
      unfold rowK at h
      simp only [List.cons.injEq, Sum.inl.injEq, Sum.inr.injEq, and_true] at h
      obtain ⟨h1, h2, h3⟩ := h
      rw [bopS_inj h1, show a = c by omega, show b = d by omega]
    | _ => cases congrArg List.length h
  | lat a =>
    cases t with
    | fix c => exact absurd (Sum.inr.inj (List.cons.inj h).1).symm f2
    | inv c => exact absurd (Sum.inr.inj (List.cons.inj h).1).symm f3
    | lat c => unfold rowK at h; simp only [List.cons.injEq, Sum.inl.injEq, and_true, true_and] at h; rw [show a = c by omega]
    | _ => cases congrArg List.length h
def placesFrom (n : Nat) : List Row → List (List Key × V)
  | [] => []
  | r :: rs => (rowK r, .int (n : Int)) :: placesFrom (n + 1) rs
def placesK (ks : List Row) : List (List Key × V) := placesFrom 0 ks
theorem placesFrom_none {r : Row} : ∀ (ks : List Row) (n : Nat), r ∉ ks → valV (placesFrom n ks) (rowK r) = none
  | [], _, _ => rfl
  | k :: ks, n, h => by
    rw [show placesFrom n (k :: ks) = (rowK k, V.int (n : Int)) :: placesFrom (n + 1) ks from rfl, valV_neg (fun z => h (by rw [← rowK_inj z]; exact List.mem_cons_self ..))]
    exact placesFrom_none ks (n + 1) fun z => h (List.mem_cons_of_mem _ z)
theorem placesFrom_some {r : Row} : ∀ (ks : List Row) (n i : Nat), ks.Nodup → ks[i]? = some r → valV (placesFrom n ks) (rowK r) = some (.int ((n + i : Nat) : Int))
  | [], _, _, _, h => by cases h
  | k :: ks, n, 0, _, h => by
    have e : k = r := Option.some.inj h
    rw [show placesFrom n (k :: ks) = (rowK k, V.int (n : Int)) :: placesFrom (n + 1) ks from rfl, valV_pos (by rw [e])]
    rfl
  | k :: ks, n, i + 1, nd, h => by
    have h' : ks[i]? = some r := h
    have ne : ¬ rowK k = rowK r := fun z => (List.nodup_cons.mp nd).1 (by rw [rowK_inj z]; exact List.mem_of_getElem? h')
    rw [show placesFrom n (k :: ks) = (rowK k, V.int (n : Int)) :: placesFrom (n + 1) ks from rfl, valV_neg ne, placesFrom_some ks (n + 1) i (List.nodup_cons.mp nd).2 h', show n + 1 + i = n + (i + 1) by omega]
theorem placesFrom_snoc (r : Row) : ∀ (ks : List Row) (n : Nat), placesFrom n (ks ++ [r]) = placesFrom n ks ++ [(rowK r, .int ((n + ks.length : Nat) : Int))]
  | [], n => rfl
  | k :: ks, n => by
    show (rowK k, V.int (n : Int)) :: placesFrom (n + 1) (ks ++ [r]) = (rowK k, V.int (n : Int)) :: (placesFrom (n + 1) ks ++ _)
    rw [placesFrom_snoc r ks (n + 1), List.length_cons, show n + 1 + ks.length = n + (ks.length + 1) by omega]
theorem placesFrom_len : ∀ (ks : List Row) (n : Nat), (placesFrom n ks).length = ks.length
  | [], _ => rfl
  | _ :: ks, n => by show (placesFrom (n + 1) ks).length + 1 = ks.length + 1; rw [placesFrom_len]
/-! the kept rows -/
def fixAt (ks : List Row) (w : Nat) : Prop := ∃ b, ks[w]? = some (.fix b)
def invAt (ks : List Row) (w : Nat) : Prop := ∃ a, ks[w]? = some (.inv a)
def FormR (ks : List Row) : Row → Prop
  | .inv a => ¬ fixAt ks a ∧ ¬ invAt ks a
  | .bin _ a b => a < b ∧ ¬ fixAt ks a ∧ ¬ fixAt ks b
  | _ => True
structure KOk (N : Str → Prop) (old ks : List Row) : Prop where
  ok : RowsOk N ks
  nl : NoLats ks
  nd : ks.Nodup
  form : ∀ r ∈ ks, FormR ks r
  ins : ∀ n k, Row.inn n k ∈ ks → Row.inn n k ∈ old
def Grow (ks ks' : List Row) : Prop := ∃ t, ks' = ks ++ t ∧ t.length ≤ 1
theorem Grow.refl (ks : List Row) : Grow ks ks := ⟨[], (List.append_nil ks).symm, Nat.zero_le _⟩
theorem Grow.len {ks ks' : List Row} (h : Grow ks ks') : ks.length ≤ ks'.length ∧ ks'.length ≤ ks.length + 1 := by
  obtain ⟨t, rfl, h⟩ := h
  rw [List.length_append]
  omega
theorem Grow.get {ks ks' : List Row} (h : Grow ks ks') {w : Nat} (hw : w < ks.length) : ks'[w]? = ks[w]? := by
  obtain ⟨t, rfl, h⟩ := h
  exact List.getElem?_append_left hw
def Fit (N : Str → Prop) (old ks : List Row) (r : Row) : Prop := RowOk N ks.length r ∧ noLat r ∧ FormR ks r ∧ ∀ n k, r = .inn n k → r ∈ old
theorem form_grow {N : Str → Prop} {ks t : List Row} {r : Row} (ok : RowOk N ks.length r) (h : FormR ks r) : FormR (ks ++ t) r := by
  have g : ∀ a, a < ks.length → (ks ++ t)[a]? = ks[a]? := fun a ha => List.getElem?_append_left ha
  cases r with
  | inv a =>
    have ha : a < ks.length := ok
    exact ⟨fun ⟨b, e⟩ => h.1 ⟨b, by rw [← g a ha]; exact e⟩, fun ⟨b, e⟩ => h.2 ⟨b, by rw [← g a ha]; exact e⟩⟩
  | bin o a b =>
    exact ⟨h.1, fun ⟨c, e⟩ => h.2.1 ⟨c, by rw [← g a ok.1]; exact e⟩, fun ⟨c, e⟩ => h.2.2 ⟨c, by rw [← g b ok.2]; exact e⟩⟩
  | _ => exact True.intro
theorem rowOk_le {N : Str → Prop} {n m : Nat} {r : Row} (h : RowOk N n r) (l : n ≤ m) : RowOk N m r := by
  cases r with
  | fix b => exact h
  | inn n k => exact h
  | inv a => exact Nat.lt_of_lt_of_le h l
  | bin o a b => exact ⟨Nat.lt_of_lt_of_le h.1 l, Nat.lt_of_lt_of_le h.2 l⟩
  | lat a => exact Nat.lt_of_lt_of_le h l
theorem KOk.rowOk {N : Str → Prop} {old ks : List Row} (k : KOk N old ks) {r : Row} (h : r ∈ ks) : RowOk N ks.length r := by
  obtain ⟨i, hi⟩ := List.mem_iff_getElem?.mp h
  exact rowOk_le (k.ok i r hi) (Nat.le_of_lt (List.getElem?_eq_some_iff.mp hi).1)
theorem KOk.put {N : Str → Prop} {old ks : List Row} {r : Row} (k : KOk N old ks) (f : Fit N old ks r) (new : r ∉ ks) : KOk N old (ks ++ [r]) := by
  refine ⟨k.ok.snoc f.1, k.nl.snoc f.2.1, ?_, fun x hx => ?_, fun n j hx => ?_⟩
  · refine List.nodup_append.mpr ⟨k.nd, List.nodup_cons.mpr ⟨(fun z => by cases z), List.nodup_nil⟩, fun x hx y hy e => ?_⟩
    rw [List.mem_singleton.mp hy] at e
    exact new (e ▸ hx)
  · rcases List.mem_append.mp hx with e | e
    · exact form_grow (k.rowOk e) (k.form x e)
    · rw [List.mem_singleton.mp e]
      exact form_grow f.1 f.2.2.1
  · rcases List.mem_append.mp hx with e | e
    · exact k.ins n j e
    · have e' := List.mem_singleton.mp e
      have := f.2.2.2 n j e'.symm
      rw [← e'] at this
      exact this
/-! what a wire tells -/
def bit (ws : List (Str × Int)) (ks : List Row) (w : Nat) : Int := (toldL ws ks).getD w 0
theorem run_grow (f : List Int → Row → Int) {ks t : List Row} {w : Nat} (h : w < ks.length) : (runL f (ks ++ t)).getD w 0 = (runL f ks).getD w 0 := by
  have e := runL_take f (ks ++ t) ks.length
  rw [List.take_left'  rfl] at e
  rw [e, List.getD_eq_getElem?_getD, List.getD_eq_getElem?_getD, List.getElem?_take, if_pos h]
theorem bit_grow {ks ks' : List Row} (g : Grow ks ks') (ws : List (Str × Int)) {w : Nat} (h : w < ks.length) : bit ws ks' w = bit ws ks w := by
  obtain ⟨t, rfl, _⟩ := g
  exact run_grow (gateI ws) h
theorem dep_grow {ks ks' : List Row} (g : Grow ks ks') {w : Nat} (h : w < ks.length) : dep ks' w = dep ks w := by
  obtain ⟨t, rfl, _⟩ := g
  exact run_grow deepI h
theorem run_at (f : List Int → Row → Int) {ks : List Row} {w : Nat} {r : Row} (h : ks[w]? = some r) : (runL f ks).getD w 0 = f ((runL f ks).take w) r := by
  rw [List.getD_eq_getElem?_getD, runL_get f h]
  rfl
theorem take_getD {xs : List Int} {w a : Nat} (h : a < w) : (xs.take w).getD a 0 = xs.getD a 0 := by
  rw [List.getD_eq_getElem?_getD, List.getD_eq_getElem?_getD, List.getElem?_take, if_pos h]
theorem bit_fix {ws : List (Str × Int)} {ks : List Row} {w : Nat} {b : Int} (h : ks[w]? = some (.fix b)) : bit ws ks w = b := run_at (gateI ws) h
theorem bit_inn {ws : List (Str × Int)} {ks : List Row} {w : Nat} {n : Str} {k : Nat} (h : ks[w]? = some (.inn n k)) : bit ws ks w = (lookW ws n).getD 0 / 2 ^ k % 2 := run_at (gateI ws) h
theorem bit_inv {N : Str → Prop} {ws : List (Str × Int)} {ks : List Row} {w a : Nat} (ok : RowsOk N ks) (h : ks[w]? = some (.inv a)) : bit ws ks w = 1 - bit ws ks a := by
  have ha : a < w := ok w _ h
  have e := run_at (gateI ws) h
  unfold bit
  show (runL (gateI ws) ks).getD w 0 = 1 - (runL (gateI ws) ks).getD a 0
  rw [e, ← take_getD ha]
  rfl
theorem bit_bin {N : Str → Prop} {ws : List (Str × Int)} {ks : List Row} {w a b : Nat} {o : Bop} (ok : RowsOk N ks) (h : ks[w]? = some (.bin o a b)) : bit ws ks w = bopI o (bit ws ks a) (bit ws ks b) := by
  have ha := ok w _ h
  have e := run_at (gateI ws) h
  unfold bit
  show (runL (gateI ws) ks).getD w 0 = bopI o ((runL (gateI ws) ks).getD a 0) ((runL (gateI ws) ks).getD b 0)
  rw [e, ← take_getD ha.1, ← take_getD ha.2]
  rfl
theorem bit_01 {N : Str → Prop} {ks : List Row} (ok : RowsOk N ks) (ws : List (Str × Int)) (w : Nat) : is01 (bit ws ks w) := by
  have h := toldL_01 ws ok ks.length
  rw [List.take_of_length_le (Nat.le_refl _)] at h
  exact all01_get h w
end Dpr

namespace Dpr
open PySem PySem.Spec PyProof.Rows L2
/-! heaps of which some places may change -/
def Fr (ms : List Addr) (H H' : Hp) : Prop := ∀ b o, H b = some o → b ∉ ms → H' b = some o
theorem Fr.refl {ms : List Addr} {H : Hp} : Fr ms H H := fun _ _ h _ => h
theorem Fr.trans {ms : List Addr} {H H1 H2 : Hp} (h : Fr ms H H1) (k : Fr ms H1 H2) : Fr ms H H2 := fun b o e n => k b o (h b o e n) n
theorem Fr.of {ms : List Addr} {H H' : Hp} (s : Same H H') : Fr ms H H' := fun b o e _ => s b o e
theorem Fr.put {ms : List Addr} {H : Hp} {a : Addr} {o : HO} (h : a ∈ ms) : Fr ms H (upd H a o) := fun b x e n => by
  rw [upd_ne (fun z => n (by rw [z]; exact h))]
  exact e
theorem Fr.same {ms : List Addr} {H0 H H' : Hp} (f : Fr ms H H') (s : Same H0 H) (n : ∀ m ∈ ms, H0 m = none) : Same H0 H' := fun b o e => f b o (s b o e) (fun z => by
  rw [n b z] at e
  cases e)
theorem Fr.mono {ms ns : List Addr} {H H' : Hp} (f : Fr ms H H') (h : ∀ m ∈ ms, m ∈ ns) : Fr ns H H' := fun b o e n => f b o e (fun z => n (h b z))
theorem seq_fr {K : PySem.W.Frag} {ms : List Addr} {H H' : Hp} {a : Addr} {xs : List V} (f : Fr ms H H') (n : a ∉ ms) (h : SqL K H a xs) : SqL K H' a xs := by
  rcases h with (h | ⟨o, h⟩) | h
  · exact .inl (.inl (f _ _ h n))
  · exact .inl (.inr ⟨o, f _ _ h n⟩)
  · exact .inr h
/-! dicts by rows -/
def NInB (Q : Bool → Hp → Prop) (y x : V) (H2 : Hp) : Prop := ∃ a o, x = .ref a ∧ DGet H2 a y o ∧ ∃ k, V.bl (!o.isSome) = .bl k ∧ Q k H2
def InB (Q : Bool → Hp → Prop) (y x : V) (H2 : Hp) : Prop := ∃ a o, x = .ref a ∧ DGet H2 a y o ∧ ∃ k, V.bl o.isSome = .bl k ∧ Q k H2
section
variable {σ : L2.St} {H : Hp} {Q : VK} {QB : Bool → Hp → Prop} {ty td : TE} {D : Ends}
theorem w_dnin (h : ty σ H fun y H1 => td σ H1 fun x H2 => NInB QB y x H2) : tB (tDNotIn ty td) σ H QB := h
theorem w_din (h : ty σ H fun y H1 => td σ H1 fun x H2 => InB QB y x H2) : tB (tDIn ty td) σ H QB := h
theorem w_NInT1 {a p : Addr} {kvs : List (List Key × V)} {k : List Key} (e : H a = some (.dT kvs)) (ep : H p = some (.tup (k.map kV))) (n : valV kvs k = none) (q : QB true H) : NInB QB (.ref p) (.ref a) H :=
  ⟨a, none, rfl, by rw [← n]; exact DGet.t e ep, true, rfl, q⟩
theorem w_NInT0 {a p : Addr} {kvs : List (List Key × V)} {k : List Key} {v : V} (e : H a = some (.dT kvs)) (ep : H p = some (.tup (k.map kV))) (n : valV kvs k = some v) (q : QB false H) : NInB QB (.ref p) (.ref a) H :=
  ⟨a, some v, rfl, by rw [← n]; exact DGet.t e ep, false, rfl, q⟩
theorem w_DGT {a p : Addr} {kvs : List (List Key × V)} {k : List Key} {v : V} (e : H a = some (.dT kvs)) (ep : H p = some (.tup (k.map kV))) (n : valV kvs k = some v) (q : Q v H) : DG1 (.ref a) (.ref p) H Q :=
  ⟨a, v, rfl, by rw [← n]; exact DGet.t e ep, q⟩
theorem w_DPutT {a p : Addr} {kvs : List (List Key × V)} {k : List Key} {v : V} (e : H a = some (.dT kvs)) (ep : H p = some (.tup (k.map kV))) (hl : kvs.length ≤ 1000000) (q : D.nx σ (upd H a (.dT (putK kvs k v)))) : DPutB D σ v (.ref a) (.ref p) H :=
  ⟨a, _, rfl, .inr ⟨kvs, k, p, e, rfl, ep, Nat.lt_of_le_of_lt hl (by rw [sizeLine_eq]; decide), rfl⟩, q⟩
theorem w_dnewT (h : ∀ p H', H p = none → Same H H' → H' p = some (.dT []) → Q (.ref p) H') : tDNewT σ H Q := fun p hp => h p _ hp (same_upd hp) upd_same
end
theorem w_notNoI {i : Int} {H : Hp} {Q : VK} (h : Q (.bl true) H) : rNotNo (.int i) .non H Q := ⟨rfl, h⟩
/-! objects made -/
section
variable {σ : L2.St} {H H1 : Hp} {Q : VK} {C : Addr} {sp : Sp} {vs dvs : List V} {E : XK} {t : TA}
def MkB (C : Addr) (sp : Sp) (dvs : List V) (E : XK) (Q : VK) (vs : List V) (H1 : Hp) : Prop := ∀ x dx, H1 x = none → H1 dx = none → dx ≠ x → sp (.ref x :: (vs ++ dvs)) (upd (upd H1 dx (.own x)) x (.ins C dx [])) (fun v H2 => v = .non ∧ Q (.ref x) H2) E
theorem w_mk (h : t σ H fun vs H1 => MkB C sp dvs E Q vs H1) : tMake C sp dvs E t σ H Q := h
theorem w_MkB (h : ∀ x dx H2, H1 x = none → H1 dx = none → Same H1 H2 → H2 x = some (.ins C dx []) → sp (.ref x :: (vs ++ dvs)) H2 (fun v H3 => v = .non ∧ Q (.ref x) H3) E) : MkB C sp dvs E Q vs H1 := fun x dx n1 n2 ne =>
  h x dx _ n1 n2 ((same_upd n2).trans (same_upd (by rw [upd_ne ne.symm]; exact n1))) upd_same
end
/-! lists set by places -/
section
variable {σ : L2.St} {H : Hp} {Q : VK} {QS : L2.St → Hp → Prop} {ta ti : TE} {ts : TSet} {v : V}
theorem w_gSub (h : ta σ H fun o H1 => ti σ H1 fun i H2 => ts o i v H2 fun H3 => QS σ H3) : gSub ta ti ts v σ H QS := h
theorem ixN_nat {n k : Nat} (h : k < n) : ixN n (k : Int) = some k := by
  unfold ixN
  rw [if_pos (by omega), if_pos (by omega), Int.toNat_natCast]
theorem w_setL {p : Addr} {xs : List V} {k : Nat} {QH : Hp → Prop} (hp : H p = some (.lst xs)) (hk : k < xs.length) (q : QH (upd H p (.lst (xs.set k v)))) : rSetL (.ref p) (.int (k : Int)) v H QH := ⟨p, xs, k, k, rfl, rfl, hp, ixN_nat hk, q⟩
end
/-! tuples of lists, tuples joined -/
def rTupOf (K : PySem.W.Frag) : List V → Hp → VK → Prop := fun xs H Q => ∃ p ys, xs = [.ref p] ∧ ((SqL K H p ys ∧ ∀ l, H l = none → Q (.ref l) (upd H l (.tup ys))) ∨ (SqT K H p ys ∧ Q (.ref p) H))
theorem c_tupK {X : Cx} (K : PySem.W.Frag) (e : X.K = K := by rfl) : CallR X (.type "tuple") (rTupOf K) := by subst e; exact call_tuple_of
theorem w_tupL {K : PySem.W.Frag} {H : Hp} {Q : VK} {p : Addr} {xs : List V} (h : SqL K H p xs) (q : ∀ l H', H l = none → Same H H' → H' l = some (.tup xs) → Q (.ref l) H') : rTupOf K [.ref p] H Q := ⟨p, xs, rfl, .inl ⟨h, fun l hl => q l _ hl (same_upd hl) upd_same⟩⟩
theorem op_catTK {X : Cx} (K : PySem.W.Frag) (e : X.K = K := by rfl) : OpR X (binaryOp .Add) (rCatT K) := by subst e; exact op_catT
theorem w_catT {K : PySem.W.Frag} {H : Hp} {Q : VK} {a b : Addr} {xs ys : List V} (ha : SqT K H a xs) (hb : SqT K H b ys) (hx : xs ≠ []) (hy : ys ≠ []) (hz : xs.length + ys.length ≤ 1000) (q : ∀ l H', H l = none → Same H H' → H' l = some (.tup (xs ++ ys)) → Q (.ref l) H') : rCatT K (.ref a) (.ref b) H Q :=
  ⟨a, b, xs, ys, rfl, rfl, ha, hb, hx, Nat.le_trans hz (by rw [sizeLine_eq]; decide), fun z => absurd z hy, fun _ l hl => q l _ hl (same_upd hl) upd_same⟩
/-- a comprehension over a tuple -/
theorem lc_t {K : PySem.W.Frag} {σ : L2.St} {H : Hp} {Q : VK} {te : TE} {vs : List Nat} {a : Addr} {j : Nat} (xs ys : List V) (hlen : ys.length = xs.length) (hS : SqT K H a xs) (hz : xs.length ≤ 1000000) (hw : ∀ x, wipe ((wipe σ vs).set j (some x)) vs = wipe σ vs)
    (he : ∀ (i : Nat) x y H' (Q' : VK), xs[i]? = some x → ys[i]? = some y → Same H H' → Q' y H' → te ((wipe σ vs).set j (some x)) H' Q')
    (q : ∀ p H', H p = none → Same H H' → H' p = some (.lst ys) → Q (.ref p) H') : LcB (Itt K a) (gName j) tYes te vs σ Q H := fun p hp =>
  lc_tup (xs := xs) (fun i H' => H' = upd H p (.lst (ys.take i))) rfl (fun i H' _ e => by
    subst e
    exact same_tup (same_upd hp) hS) (fun i x H' hx e => by
    subst e
    have hi := (List.getElem?_eq_some_iff.mp hx).1
    have hy : ys[i]? = some ys[i] := List.getElem?_eq_getElem (by omega)
    show wipe ((wipe σ vs).set j (some x)) vs = wipe σ vs ∧ te ((wipe σ vs).set j (some x)) (upd H p (.lst (ys.take i)))
      (fun y H4 => ∃ acc, H4 p = some (.lst acc) ∧ acc.length < sizeLine ∧ upd H4 p (.lst (acc ++ [y])) = upd H p (.lst (ys.take (i + 1))))
    refine ⟨hw _, he i x _ _ _ hx hy (same_upd hp) ⟨_, upd_same, ?_, ?_⟩⟩
    · rw [List.length_take]
      exact Nat.lt_of_lt_of_le (show min i ys.length < 16777216 by omega) (by rw [sizeLine_eq]; exact Nat.le_refl _)
    · rw [upd_upd, List.take_add_one, hy]
      rfl) fun H' e => by
    subst e
    refine q p _ hp (same_upd hp) ?_
    rw [upd_same, List.take_of_length_le (by omega)]
end Dpr

namespace Dpr
open PySem PySem.Spec PyProof.Rows L2
theorem natI_map (ws : List Nat) : (natI ws).map V.int = ws.map fun (z : Nat) => V.int (z : Int) := by unfold natI; rw [List.map_map]; rfl
theorem ref_at {ps : List Addr} {w : Nat} {p : Addr} (hp : ps[w]? = some p) : atI (ps.map V.ref) (w : Int) = some (.ref p) := atI_nat (by rw [List.getElem?_map, hp]; rfl)
end Dpr

namespace Dpr
open PySem PySem.Spec PyProof.Rows L2
/-! depths, row by row -/
theorem dep_own {N : Str → Prop} {ks : List Row} (ok : RowsOk N ks) {w a : Nat} {r : Row} (h : ks[w]? = some r) (ha : a ∈ ownR r) : dep ks a + 1 ≤ dep ks w := by
  rw [dep_eq ok h]
  exact (fold_top_le (fun z => dep ks z + 1) (ownR r) 0).2 a ha
theorem dep_le_of {N : Str → Prop} {ks : List Row} (ok : RowsOk N ks) {w : Nat} {r : Row} {m : Int} (h : ks[w]? = some r) (hm : 0 ≤ m) (k : ∀ a ∈ ownR r, dep ks a + 1 ≤ m) : dep ks w ≤ m := by
  rw [dep_eq ok h]
  rcases fold_top (fun z => dep ks z + 1) (ownR r) 0 with e | ⟨z, hz, e⟩
  · rw [e]; exact hm
  · rw [e]; exact k z hz
/-! which wires are needed -/
def markL (fs : List Bool) (ws : List Nat) : List Bool := ws.foldl (fun f w => f.set w true) fs
theorem mark_len : ∀ (ws : List Nat) (fs : List Bool), (markL fs ws).length = fs.length
  | [], _ => rfl
  | w :: ws, fs => by
    show (markL (fs.set w true) ws).length = fs.length
    rw [mark_len ws, List.length_set]
theorem mark_get : ∀ (ws : List Nat) (fs : List Bool) (x : Nat), x < fs.length → ((markL fs ws)[x]? = some true ↔ x ∈ ws ∨ fs[x]? = some true)
  | [], fs, x, _ => ⟨.inr, fun h => h.resolve_left (fun z => by cases z)⟩
  | w :: ws, fs, x, hx => by
    show (markL (fs.set w true) ws)[x]? = some true ↔ _
    rw [mark_get ws (fs.set w true) x (by rw [List.length_set]; exact hx), List.getElem?_set]
    by_cases e : w = x
    · subst e
      rw [if_pos rfl, if_pos hx]
      exact ⟨fun _ => .inl (List.mem_cons_self ..), fun _ => .inr rfl⟩
    · rw [if_neg e, List.mem_cons]
      exact ⟨fun h => h.elim (fun a => .inl (.inr a)) .inr, fun h => h.elim (fun a => a.elim (fun z => absurd z.symm e) .inl) .inr⟩
theorem mark_snoc (fs : List Bool) (ws : List Nat) (w : Nat) : markL fs (ws ++ [w]) = (markL fs ws).set w true := by
  unfold markL
  rw [List.foldl_append]
  rfl
def NeedI (rs : List Row) (outs : List Nat) (n i : Nat) (fs : List Bool) : Prop := fs.length = n ∧ ∀ w, w < n → (fs[w]? = some true ↔ w ∈ outs ∨ ∃ j r, n - i ≤ j ∧ rs[j]? = some r ∧ w ∈ ownR r ∧ fs[j]? = some true)
theorem NeedI.start {rs : List Row} {outs : List Nat} (n : Nat) (hn : rs.length = n) : NeedI rs outs n 0 (markL (List.replicate n false) outs) := by
  have hl : (List.replicate n false).length = n := List.length_replicate
  refine ⟨by rw [mark_len, hl], fun w hw => ?_⟩
  rw [mark_get _ _ _ (by rw [hl]; exact hw)]
  constructor
  · rintro (h | h)
    · exact .inl h
    · rw [List.getElem?_replicate, if_pos hw] at h
      cases h
  · rintro (h | ⟨j, r, h1, h2, _⟩)
    · exact .inl h
    · have := (List.getElem?_eq_some_iff.mp h2).1
      omega
theorem NeedI.skip {rs : List Row} {outs : List Nat} {n i : Nat} {fs : List Bool} (h : NeedI rs outs n i fs) (hf : ¬ fs[n - (i + 1)]? = some true) (hi : i < n) : NeedI rs outs n (i + 1) fs := by
  refine ⟨h.1, fun w hw => ?_⟩
  rw [h.2 w hw]
  constructor
  · rintro (k | ⟨j, r, h1, h2⟩)
    · exact .inl k
    · exact .inr ⟨j, r, by omega, h2⟩
  · rintro (k | ⟨j, r, h1, h2, h3, h4⟩)
    · exact .inl k
    · by_cases e : n - i ≤ j
      · exact .inr ⟨j, r, e, h2, h3, h4⟩
      · have e2 : j = n - (i + 1) := by omega
        rw [e2] at h4
        exact absurd h4 hf
theorem NeedI.mark {N : Str → Prop} {rs : List Row} {outs : List Nat} {n i : Nat} {fs : List Bool} {r : Row} (ok : RowsOk N rs) (h : NeedI rs outs n i fs) (hf : fs[n - (i + 1)]? = some true) (hi : i < n) (hr : rs[n - (i + 1)]? = some r) : NeedI rs outs n (i + 1) (markL fs (ownR r)) := by
  have lt := own_lt (ok _ r hr)
  have same : ∀ j, n - (i + 1) ≤ j → j < n → ((markL fs (ownR r))[j]? = some true ↔ fs[j]? = some true) := fun j h1 h2 => by
    rw [mark_get _ _ _ (by rw [h.1]; exact h2)]
    exact ⟨fun k => k.resolve_left (fun z => by have := lt j z; omega), .inr⟩
  have inn : ∀ j, (markL fs (ownR r))[j]? = some true → j < n := fun j z => by
    have := (List.getElem?_eq_some_iff.mp z).1
    rw [mark_len, h.1] at this
    exact this
  have inn2 : ∀ j, fs[j]? = some true → j < n := fun j z => by
    have := (List.getElem?_eq_some_iff.mp z).1
    rw [h.1] at this
    exact this
  refine ⟨by rw [mark_len]; exact h.1, fun w hw => ?_⟩
  rw [mark_get _ _ _ (by rw [h.1]; exact hw), h.2 w hw]
  constructor
  · rintro (k | k | ⟨j, s, h1, h2, h3, h4⟩)
    · exact .inr ⟨n - (i + 1), r, Nat.le_refl _, hr, k, (same _ (Nat.le_refl _) (by omega)).mpr hf⟩
    · exact .inl k
    · exact .inr ⟨j, s, by omega, h2, h3, (same j (by omega) (inn2 j h4)).mpr h4⟩
  · rintro (k | ⟨j, s, h1, h2, h3, h4⟩)
    · exact .inr (.inl k)
    · have h5 := (same j h1 (inn j h4)).mp h4
      by_cases e : n - i ≤ j
      · exact .inr (.inr ⟨j, s, e, h2, h3, h5⟩)
      · have e2 : j = n - (i + 1) := by omega
        rw [e2, hr] at h2
        cases h2
        exact .inl h3
/-! rows numbered anew -/
def cnt (fs : List Bool) (j : Nat) : Nat := (fs.take j).count true
theorem cnt_succ {fs : List Bool} {j : Nat} {b : Bool} (h : fs[j]? = some b) : cnt fs (j + 1) = cnt fs j + (if b = true then 1 else 0) := by
  unfold cnt
  rw [take_snoc h, List.count_append]
  cases b <;> rfl
theorem cnt_mono (fs : List Bool) {i j : Nat} (h : i ≤ j) : cnt fs i ≤ cnt fs j := by
  unfold cnt
  exact List.Sublist.count_le true (List.take_sublist_take_left h)
theorem cnt_lt {fs : List Bool} {i j : Nat} (h : i < j) (hi : fs[i]? = some true) : cnt fs i < cnt fs j := by
  have e := cnt_succ hi
  rw [if_pos rfl] at e
  have := cnt_mono fs (show i + 1 ≤ j from h)
  omega
theorem cnt_le (fs : List Bool) (j : Nat) : cnt fs j ≤ j := by
  unfold cnt
  exact Nat.le_trans List.count_le_length (by rw [List.length_take]; omega)
theorem cnt_inv (fs : List Bool) : ∀ (i k : Nat), i ≤ fs.length → k < cnt fs i → ∃ j, j < i ∧ fs[j]? = some true ∧ cnt fs j = k
  | 0, k, _, h => by unfold cnt at h; rw [List.take_zero] at h; simp at h
  | i + 1, k, hl, h => by
    have hi : i < fs.length := by omega
    have e := cnt_succ (List.getElem?_eq_getElem hi)
    by_cases c : k < cnt fs i
    · obtain ⟨j, h1, h2, h3⟩ := cnt_inv fs i k (by omega) c
      exact ⟨j, by omega, h2, h3⟩
    · cases g : fs[i] with
      | true =>
        rw [g, if_pos rfl] at e
        exact ⟨i, Nat.lt_succ_self _, by rw [List.getElem?_eq_getElem hi, g], by omega⟩
      | false =>
        rw [g, if_neg Bool.false_ne_true] at e
        omega
def renR (f : Nat → Nat) : Row → Row
  | .inv a => .inv (f a)
  | .bin o a b => .bin o (f a) (f b)
  | r => r
theorem own_ren (f : Nat → Nat) (r : Row) (nl : noLat r) : ownR (renR f r) = (ownR r).map f := by
  cases r <;> first | rfl | exact nl.elim
theorem ren_inj {f : Nat → Nat} {r s : Row} (n1 : noLat r) (n2 : noLat s) (i : ∀ x ∈ ownR r, ∀ y ∈ ownR s, f x = f y → x = y) (h : renR f r = renR f s) : r = s := by
  cases r with
  | fix b =>
    cases s with
    | fix c => exact h
    | lat c => exact n2.elim
    | _ => exact Row.noConfusion h
  | inn m k =>
    cases s with
    | inn c d => exact h
    | lat c => exact n2.elim
    | _ => exact Row.noConfusion h
  | lat a => exact n1.elim
  | inv a =>
    cases s with
    | inv b => rw [i a (List.mem_cons_self ..) b (List.mem_cons_self ..) (Row.inv.inj h)]
    | lat c => exact n2.elim
    | _ => exact Row.noConfusion h
  | bin p a b =>
    cases s with
    | bin q c d =>
      obtain ⟨e1, e2, e3⟩ := Row.bin.inj h
      rw [e1, i a (List.mem_cons_self ..) c (List.mem_cons_self ..) e2, i b (List.mem_cons_of_mem _ (List.mem_cons_self ..)) d (List.mem_cons_of_mem _ (List.mem_cons_self ..)) e3]
    | lat c => exact n2.elim
    | _ => exact Row.noConfusion h
def Ren (rs : List Row) (fs : List Bool) (i : Nat) (made : List Row) : Prop := made.length = cnt fs i ∧ ∀ j r, j < i → rs[j]? = some r → fs[j]? = some true → made[cnt fs j]? = some (renR (cnt fs) r)
theorem Ren.start (rs : List Row) (fs : List Bool) : Ren rs fs 0 [] := ⟨rfl, fun j r h => by omega⟩
theorem Ren.skip {rs : List Row} {fs : List Bool} {i : Nat} {made : List Row} (h : Ren rs fs i made) (hi : fs[i]? = some false) : Ren rs fs (i + 1) made := by
  refine ⟨by rw [cnt_succ hi, h.1]; rfl, fun j r hj hr hf => ?_⟩
  by_cases e : j < i
  · exact h.2 j r e hr hf
  · rw [show j = i by omega, hi] at hf
    cases hf
theorem Ren.put {rs : List Row} {fs : List Bool} {i : Nat} {made : List Row} {r : Row} (h : Ren rs fs i made) (hi : fs[i]? = some true) (hr : rs[i]? = some r) : Ren rs fs (i + 1) (made ++ [renR (cnt fs) r]) := by
  refine ⟨by rw [List.length_append, cnt_succ hi, h.1]; rfl, fun j s hj hs hf => ?_⟩
  by_cases e : j < i
  · have := cnt_lt e hf
    rw [List.getElem?_append_left (by rw [h.1]; exact this)]
    exact h.2 j s e hs hf
  · obtain rfl : j = i := by omega
    rw [hr] at hs
    cases hs
    rw [← h.1, List.getElem?_append_right (Nat.le_refl _), Nat.sub_self]
    rfl
/-! rows made fewer -/
structure FewOk (N : Str → Prop) (rs : List Row) (outs : List Nat) (made : List Row) (outs' : List Nat) : Prop where
  kok : KOk N rs made
  len : made.length ≤ rs.length
  olen : outs'.length = outs.length
  olt : ∀ o ∈ outs', o < made.length
  same : ∀ (i o o' : Nat), outs[i]? = some o → outs'[i]? = some o' → (∀ ws, bit ws made o' = bit ws rs o) ∧ dep made o' ≤ dep rs o
  used : ∀ k, k < made.length → k ∈ outs' ∨ ∃ (j : Nat) (r : Row), made[j]? = some r ∧ k ∈ ownR r
section
variable {N : Str → Prop} {old ks made : List Row} {outs : List Nat} {fs : List Bool}
theorem ren_row (kok : KOk N old ks) (hR : Ren ks fs ks.length made) (hl : fs.length = ks.length) {k : Nat} {s : Row} (h : made[k]? = some s) : ∃ j r, ks[j]? = some r ∧ fs[j]? = some true ∧ cnt fs j = k ∧ s = renR (cnt fs) r := by
  have hk := (List.getElem?_eq_some_iff.mp h).1
  rw [hR.1] at hk
  obtain ⟨j, h1, h2, h3⟩ := cnt_inv fs _ k (by rw [hl]; exact Nat.le_refl _) hk
  refine ⟨j, ks[j], List.getElem?_eq_getElem h1, h2, h3, ?_⟩
  have e := hR.2 j _ h1 (List.getElem?_eq_getElem h1) h2
  rw [h3, h] at e
  exact Option.some.inj e
theorem need_own (hN : NeedI ks outs ks.length ks.length fs) (ok : RowsOk N ks) {j a : Nat} {r : Row} (hr : ks[j]? = some r) (hf : fs[j]? = some true) (ha : a ∈ ownR r) : a < j ∧ fs[a]? = some true := by
  have lt := own_lt (ok j r hr) a ha
  have hj := (List.getElem?_eq_some_iff.mp hr).1
  exact ⟨lt, (hN.2 a (by omega)).mpr (.inr ⟨j, r, by omega, hr, ha, hf⟩)⟩
theorem ren_ok (kok : KOk N old ks) (hN : NeedI ks outs ks.length ks.length fs) (hR : Ren ks fs ks.length made) : KOk N old made := by
  have row := fun {k : Nat} {s : Row} (h : made[k]? = some s) => ren_row kok hR hN.1 h
  have inj : ∀ (i j : Nat), fs[i]? = some true → fs[j]? = some true → cnt fs i = cnt fs j → i = j := fun i j hi hj e => by
    rcases Nat.lt_trichotomy i j with q | q | q
    · have := cnt_lt q hi; omega
    · exact q
    · have := cnt_lt q hj; omega
  have own : ∀ {j : Nat} {r : Row}, ks[j]? = some r → fs[j]? = some true → ∀ a ∈ ownR r, cnt fs a < cnt fs j ∧ fs[a]? = some true := fun hr hf a ha => by
    obtain ⟨h1, h2⟩ := need_own hN kok.ok hr hf ha
    exact ⟨cnt_lt h1 h2, h2⟩
  have at' : ∀ {j : Nat} {r : Row}, ks[j]? = some r → fs[j]? = some true → made[cnt fs j]? = some (renR (cnt fs) r) := fun hr hf => hR.2 _ _ (List.getElem?_eq_some_iff.mp hr).1 hr hf
  have back : ∀ {a : Nat} {s : Row}, fs[a]? = some true → made[cnt fs a]? = some s → ∃ r, ks[a]? = some r ∧ s = renR (cnt fs) r := fun {a s} ha hs => by
    obtain ⟨j, r, h1, h2, h3, h4⟩ := row hs
    obtain rfl := inj _ _ h2 ha h3
    exact ⟨r, h1, h4⟩
  have nofix : ∀ {a : Nat}, fs[a]? = some true → ¬ fixAt ks a → ¬ fixAt made (cnt fs a) := fun {a} ha hn ⟨b, hb⟩ => by
    obtain ⟨r, h1, h2⟩ := back ha hb
    cases r with
    | fix c => exact hn ⟨c, h1⟩
    | _ => cases h2
  have noinv : ∀ {a : Nat}, fs[a]? = some true → ¬ invAt ks a → ¬ invAt made (cnt fs a) := fun {a} ha hn ⟨b, hb⟩ => by
    obtain ⟨r, h1, h2⟩ := back ha hb
    cases r with
    | inv c => exact hn ⟨c, h1⟩
    | _ => cases h2
  refine ⟨fun k s hs => ?_, fun s hs => ?_, ?_, fun s hs => ?_, fun n k hs => ?_⟩
  · obtain ⟨j, r, h1, h2, h3, rfl⟩ := row hs
    have o := own h1 h2
    have okr := kok.ok j r h1
    rw [← h3]
    cases r with
    | fix b => exact okr
    | inn m k => exact okr
    | inv a => exact (o a (List.mem_cons_self ..)).1
    | bin p a b => exact ⟨(o a (List.mem_cons_self ..)).1, (o b (List.mem_cons_of_mem _ (List.mem_cons_self ..))).1⟩
    | lat a => exact (kok.nl _ (List.mem_of_getElem? h1)).elim
  · obtain ⟨k, hk⟩ := List.mem_iff_getElem?.mp hs
    obtain ⟨j, r, h1, h2, h3, rfl⟩ := row hk
    have := kok.nl _ (List.mem_of_getElem? h1)
    cases r <;> first | exact True.intro | exact this.elim
  · rw [List.nodup_iff_pairwise_ne, List.pairwise_iff_getElem]
    intro i j hi hj hij e
    obtain ⟨i', r, h1, h2, h3, h4⟩ := row (List.getElem?_eq_getElem hi)
    obtain ⟨j', s, g1, g2, g3, g4⟩ := row (List.getElem?_eq_getElem hj)
    rw [e, g4] at h4
    have o1 := own h1 h2
    have o2 := own g1 g2
    have n1 := kok.nl _ (List.mem_of_getElem? h1)
    have n2 := kok.nl _ (List.mem_of_getElem? g1)
    have e2 : r = s := ren_inj n1 n2 (fun x hx y hy e => inj x y (o1 x hx).2 (o2 y hy).2 e) h4.symm
    subst e2
    have hj' := (List.getElem?_eq_some_iff.mp h1)
    have hi' := (List.getElem?_eq_some_iff.mp g1)
    have : i' = j' := (List.getElem_inj kok.nd).mp (hj'.2.trans hi'.2.symm)
    subst this
    omega
  · obtain ⟨k, hk⟩ := List.mem_iff_getElem?.mp hs
    obtain ⟨j, r, h1, h2, h3, rfl⟩ := row hk
    have o := own h1 h2
    have f := kok.form r (List.mem_of_getElem? h1)
    cases r with
    | inv a =>
      have ha := (o a (List.mem_cons_self ..)).2
      exact ⟨nofix ha f.1, noinv ha f.2⟩
    | bin p a b =>
      have ha := (o a (List.mem_cons_self ..)).2
      have hb := (o b (List.mem_cons_of_mem _ (List.mem_cons_self ..))).2
      exact ⟨cnt_lt f.1 ha, nofix ha f.2.1, nofix hb f.2.2⟩
    | _ => exact True.intro
  · obtain ⟨i, hi⟩ := List.mem_iff_getElem?.mp hs
    obtain ⟨j, r, h1, h2, h3, h4⟩ := row hi
    cases r with
    | inn m l =>
      have e := h4
      unfold renR at e
      rw [e]
      exact kok.ins m l (List.mem_of_getElem? h1)
    | _ => cases h4
theorem ren_same (kok : KOk N old ks) (hN : NeedI ks outs ks.length ks.length fs) (hR : Ren ks fs ks.length made) : ∀ (n j : Nat), j < n → fs[j]? = some true → (∀ ws, bit ws made (cnt fs j) = bit ws ks j) ∧ dep made (cnt fs j) ≤ dep ks j
  | 0, j, h, _ => by omega
  | n + 1, j, h, hf => by
    have ok' := (ren_ok kok hN hR).ok
    have ih := ren_same kok hN hR n
    have hj : j < ks.length := by
      have := (List.getElem?_eq_some_iff.mp hf).1
      rw [hN.1] at this
      exact this
    have hr := List.getElem?_eq_getElem hj
    have hm := hR.2 j _ hj hr hf
    have o := fun a ha => need_own hN kok.ok hr hf (a := a) ha
    refine ⟨fun ws => ?_, ?_⟩
    · generalize ks[j] = r at *
      cases r with
      | fix b => rw [bit_fix hr, bit_fix hm]
      | inn m k => rw [bit_inn hr, bit_inn hm]
      | inv a =>
        obtain ⟨h1, h2⟩ := o a (List.mem_cons_self ..)
        rw [bit_inv kok.ok hr, bit_inv ok' hm, (ih a (by omega) h2).1]
      | bin p a b =>
        obtain ⟨h1, h2⟩ := o a (List.mem_cons_self ..)
        obtain ⟨g1, g2⟩ := o b (List.mem_cons_of_mem _ (List.mem_cons_self ..))
        rw [bit_bin kok.ok hr, bit_bin ok' hm, (ih a (by omega) h2).1, (ih b (by omega) g2).1]
      | lat a => exact (kok.nl _ (List.mem_of_getElem? hr)).elim
    · refine dep_le_of ok' hm (dep_nn kok.ok j) fun a ha => ?_
      rw [own_ren _ _ (kok.nl _ (List.mem_of_getElem? hr))] at ha
      obtain ⟨b, hb, rfl⟩ := List.mem_map.mp ha
      obtain ⟨h1, h2⟩ := o b hb
      have := dep_own kok.ok hr hb
      have := (ih b (by omega) h2).2
      omega
theorem few_of {rs : List Row} {new : List Nat} {os : List Nat} (kok : KOk N rs ks) (hlen : ks.length ≤ rs.length) (hnl : ∀ w ∈ new, w < ks.length) (hol : ∀ o ∈ os, o < new.length)
    (hnew : ∀ (i w : Nat), new[i]? = some w → (∀ ws, bit ws ks w = bit ws rs i) ∧ dep ks w ≤ dep rs i) (ho : outs = os.map fun o => new.getD o 0) (hN : NeedI ks outs ks.length ks.length fs) (hR : Ren ks fs ks.length made) :
    FewOk N rs os made (outs.map (cnt fs)) := by
  have kok' := ren_ok kok hN hR
  have oget : ∀ (i o : Nat), os[i]? = some o → ∃ w, new[o]? = some w ∧ outs[i]? = some w := fun i o h => by
    have h2 := hol o (List.mem_of_getElem? h)
    refine ⟨new[o], List.getElem?_eq_getElem h2, ?_⟩
    rw [ho, List.getElem?_map, h, Option.map_some, List.getD_eq_getElem?_getD, List.getElem?_eq_getElem h2]
    rfl
  have need : ∀ w ∈ outs, w < ks.length ∧ fs[w]? = some true := fun w hw => by
    have hw0 := hw
    rw [ho] at hw
    obtain ⟨o, h1, h2⟩ := List.mem_map.mp hw
    obtain ⟨i, hi⟩ := List.mem_iff_getElem?.mp h1
    obtain ⟨w', g1, g2⟩ := oget i o hi
    rw [List.getD_eq_getElem?_getD, g1] at h2
    have e : w' = w := h2
    rw [e] at g1
    have hlt := hnl w (List.mem_of_getElem? g1)
    exact ⟨hlt, (hN.2 w hlt).mpr (.inl hw0)⟩
  have mlen : made.length ≤ ks.length := by rw [hR.1]; exact cnt_le _ _
  refine ⟨kok', Nat.le_trans mlen hlen, by rw [List.length_map, ho, List.length_map], fun o h => ?_, fun i o o' h1 h2 => ?_, fun k hk => ?_⟩
  · obtain ⟨w, hw, rfl⟩ := List.mem_map.mp h
    obtain ⟨h1, h2⟩ := need w hw
    rw [hR.1]
    exact cnt_lt h1 h2
  · obtain ⟨w, g1, g2⟩ := oget i o h1
    rw [List.getElem?_map, g2] at h2
    cases h2
    have hw := (need w (List.mem_of_getElem? g2)).2
    have r := ren_same kok hN hR (w + 1) w (Nat.lt_succ_self _) hw
    have s := hnew o w g1
    exact ⟨fun ws => (r.1 ws).trans (s.1 ws), Int.le_trans r.2 s.2⟩
  · rw [hR.1] at hk
    obtain ⟨j, h1, h2, h3⟩ := cnt_inv fs _ k (by rw [hN.1]; exact Nat.le_refl _) hk
    rcases (hN.2 j h1).mp h2 with q | ⟨i, r, q1, q2, q3, q4⟩
    · exact .inl (List.mem_map.mpr ⟨j, q, h3⟩)
    · refine .inr ⟨cnt fs i, _, hR.2 i r (List.getElem?_eq_some_iff.mp q2).1 q2 q4, ?_⟩
      rw [own_ren _ _ (kok.nl _ (List.mem_of_getElem? q2))]
      exact List.mem_map.mpr ⟨j, q3, h3⟩
end
end Dpr

namespace Dpr
open PySem PySem.Spec PyProof.Rows L2
/-! lists of lists of wires -/
def NatsAt (H : Hp) (p : Addr) (xs : List Nat) : Prop := H p = some (.lst ((natI xs).map V.int))
def Cols (H : Hp) (c : Addr) (ps : List Addr) (cols : List (List Nat)) : Prop := H c = some (.lst (ps.map V.ref)) ∧ A2 (NatsAt H) ps cols ∧ ps.Nodup
theorem nats_ref {xs : List Nat} {ps : List Addr} (h : ps.map V.ref = (natI xs).map V.int) : ps = [] := by
  cases ps with
  | nil => rfl
  | cons p r =>
    cases xs with
    | nil => cases h
    | cons x s => cases h
theorem Cols.cn {H : Hp} {c : Addr} {ps : List Addr} {cols : List (List Nat)} (h : Cols H c ps cols) : c ∉ ps := fun m => by
  obtain ⟨i, hi⟩ := List.mem_iff_getElem?.mp m
  obtain ⟨xs, _, e⟩ := h.2.1.get hi
  have e2 : H c = some (.lst ((natI xs).map V.int)) := e
  rw [h.1] at e2
  have := nats_ref (HO.lst.inj (Option.some.inj e2))
  rw [this] at m
  cases m
theorem Cols.at {H : Hp} {c : Addr} {ps : List Addr} {cols : List (List Nat)} (h : Cols H c ps cols) {p : Addr} (m : p ∈ ps) : ∃ xs, H p = some (.lst ((natI xs).map V.int)) := by
  obtain ⟨i, hi⟩ := List.mem_iff_getElem?.mp m
  obtain ⟨xs, _, e⟩ := h.2.1.get hi
  exact ⟨xs, e⟩
theorem Cols.fr {ms : List Addr} {H H' : Hp} {c : Addr} {ps : List Addr} {cols : List (List Nat)} (f : Fr ms H H') (nc : c ∉ ms) (np : ∀ p ∈ ps, p ∉ ms) (h : Cols H c ps cols) : Cols H' c ps cols :=
  ⟨f _ _ h.1 nc, h.2.1.mono2 fun p xs m e => f _ _ e (np p m), h.2.2⟩
theorem A2.mono3 {α β : Type} {R S : α → β → Prop} {xs : List α} {ys : List β} (h : A2 R xs ys) (k : ∀ x y, x ∈ xs → R x y → S x y) : A2 S xs ys := ⟨h.1, fun i x y a b => k x y (List.mem_of_getElem? a) (h.2 i x y a b)⟩
theorem Cols.same {H H' : Hp} {c : Addr} {ps : List Addr} {cols : List (List Nat)} (s : Same H H') (h : Cols H c ps cols) : Cols H' c ps cols := ⟨s _ _ h.1, h.2.1.mono fun _ _ e => s _ _ e, h.2.2⟩
theorem Cols.put {H : Hp} {c p : Addr} {ps : List Addr} {cols : List (List Nat)} {k : Nat} {ys : List Nat} (h : Cols H c ps cols) (hp : ps[k]? = some p) : Cols (upd H p (.lst ((natI ys).map V.int))) c ps (cols.set k ys) := by
  have hm := List.mem_of_getElem? hp
  have hk := (List.getElem?_eq_some_iff.mp hp).1
  refine ⟨?_, ⟨by rw [List.length_set]; exact h.2.1.1, fun i x zs hx hz => ?_⟩, h.2.2⟩
  · rw [upd_ne (fun z => h.cn (by rw [z]; exact hm))]
    exact h.1
  · rw [List.getElem?_set] at hz
    by_cases e : k = i
    · subst e
      rw [if_pos rfl] at hz
      rw [hp] at hx
      cases hx
      split at hz
      · cases hz
        exact upd_same
      · cases hz
    · rw [if_neg e] at hz
      have ne : x ≠ p := fun z => by
        rw [z] at hx
        have h1 := List.getElem?_eq_some_iff.mp hx
        have h2 := List.getElem?_eq_some_iff.mp hp
        exact e ((List.getElem_inj h.2.2).mp (h2.2.trans h1.2.symm))
      show upd H p _ x = _
      rw [upd_ne ne]
      exact h.2.1.2 i x zs hx hz
def addC (cols : List (List Nat)) (k w : Nat) : List (List Nat) := match cols[k]? with
  | some xs => cols.set k (xs ++ [w])
  | none => cols
theorem addC_set {cols : List (List Nat)} {k w : Nat} {xs : List Nat} (h : cols[k]? = some xs) : addC cols k w = cols.set k (xs ++ [w]) := by
  unfold addC
  rw [h]
theorem addC_no {cols : List (List Nat)} {k w : Nat} (h : cols.length ≤ k) : addC cols k w = cols := by
  unfold addC
  rw [List.getElem?_eq_none h]
theorem addC_len (cols : List (List Nat)) (k w : Nat) : (addC cols k w).length = cols.length := by
  unfold addC
  cases e : cols[k]? with
  | some xs => exact List.length_set
  | none => rfl
/-- fresh empty lists -/
theorem lc_empties {σ : L2.St} {H : Hp} {Q : VK} {vs : List Nat} {lo : Int} {n j : Nat} (hn : n < 1000000) (hw : ∀ x, wipe ((wipe σ vs).set j (some x)) vs = wipe σ vs)
    (q : ∀ (c : Addr) (ps : List Addr) H', ps.length = n → H c = none → (∀ p ∈ ps, H p = none) → Same H H' → Cols H' c ps (List.replicate n []) → Q (.ref c) H') : LcB (Itr lo n) (gName j) tYes (tLst tNil) vs σ Q H := fun D hD =>
  lc_range (lo := lo) (n := n) (fun i H' => ∃ ps : List Addr, ps.length = i ∧ H' D = some (.lst (ps.map V.ref)) ∧ (∀ p ∈ ps, H' p = some (.lst []) ∧ H p = none) ∧ ps.Nodup ∧ D ∉ ps ∧ Same H H') ⟨[], rfl, upd_same, fun y h => (by cases h), List.nodup_nil, fun h => (by cases h), same_upd hD⟩ (fun i H' hi e => by
    obtain ⟨ps, hl, hd, hp, nd, dn, sm⟩ := e
    show wipe ((wipe σ vs).set j (some (V.int (lo + (i : Int))))) vs = wipe σ vs ∧ (([] : List V).length ≤ sizeLine ∧ ∀ l, H' l = none → ∃ acc, (upd H' l (.lst [])) D = some (.lst acc) ∧ acc.length < sizeLine ∧
      ∃ ps : List Addr, ps.length = i + 1 ∧ (upd (upd H' l (.lst [])) D (.lst (acc ++ [.ref l]))) D = some (.lst (ps.map V.ref)) ∧ (∀ p ∈ ps, (upd (upd H' l (.lst [])) D (.lst (acc ++ [.ref l]))) p = some (.lst []) ∧ H p = none) ∧ ps.Nodup ∧ D ∉ ps ∧ Same H (upd (upd H' l (.lst [])) D (.lst (acc ++ [.ref l]))))
    refine ⟨hw _, Nat.zero_le _, fun l hl0 => ?_⟩
    have ld : l ≠ D := fun z => by rw [z, hd] at hl0; cases hl0
    have lp : l ∉ ps := fun z => by rw [(hp l z).1] at hl0; cases hl0
    have lH : H l = none := sm.free hl0
    refine ⟨ps.map V.ref, by rw [upd_ne ld.symm]; exact hd, ?_, ps ++ [l], ?_, ?_, ?_, ?_, ?_, ?_⟩
    · rw [List.length_map, hl]
      exact Nat.lt_of_lt_of_le (show i < 16777216 by omega) (by rw [sizeLine_eq]; exact Nat.le_refl _)
    · rw [List.length_append, hl]; rfl
    · rw [upd_same, List.map_append]; rfl
    · intro p z
      rcases List.mem_append.mp z with z | z
      · refine ⟨?_, (hp p z).2⟩
        rw [upd_ne (fun w => dn (by rw [← w]; exact z)), upd_ne (fun w => lp (by rw [← w]; exact z))]
        exact (hp p z).1
      · rw [List.mem_singleton.mp z]
        refine ⟨?_, lH⟩
        rw [upd_ne ld, upd_same]
    · refine List.nodup_append.mpr ⟨nd, List.nodup_cons.mpr ⟨(fun z => by cases z), List.nodup_nil⟩, fun x hx y hy e => ?_⟩
      rw [List.mem_singleton.mp hy] at e
      exact lp (e ▸ hx)
    · intro z
      rcases List.mem_append.mp z with z | z
      · exact dn z
      · exact ld (List.mem_singleton.mp z).symm
    · exact same_mut (sm.trans (same_upd hl0)) hD) fun H' e => by
    obtain ⟨ps, hl, hd, hp, nd, dn, sm⟩ := e
    refine q D ps H' hl hD (fun p m => (hp p m).2) sm ⟨hd, ⟨by rw [List.length_replicate, hl], fun i x y hx hy => ?_⟩, nd⟩
    rw [List.getElem?_replicate] at hy
    split at hy
    · cases hy
      exact (hp x (List.mem_of_getElem? hx)).1
    · cases hy
theorem w_clear {H : Hp} {Q : VK} {p : Addr} {xs : List V} (e : H p = some (.lst xs)) (q : Q .non (upd H p (.lst []))) : rClear (.ref p) [] H Q := ⟨p, xs, rfl, rfl, e, q⟩
theorem w_pop0 {H : Hp} {Q : VK} {p : Addr} {x : V} {r : List V} (e : H p = some (.lst (x :: r))) (q : Q x (upd H p (.lst r))) : rPopAt (.ref p) [.int 0] H Q :=
  ⟨p, _, 0, 0, x, rfl, rfl, e, by decide, by decide, by
    unfold seqIndex?
    rw [List.length_cons]
    simp, rfl, q⟩
theorem Cols.refs {H : Hp} {c a p : Addr} {ps : List Addr} {cols : List (List Nat)} {r : List V} (h : Cols H c ps cols) (e : H a = some (.lst (.ref p :: r))) : a ∉ ps := fun m => by
  obtain ⟨xs, e2⟩ := h.at m
  rw [e] at e2
  cases xs with
  | nil => cases e2
  | cons x s => cases e2
def lens (cols : List (List Nat)) : List Nat := cols.map (·.length)
theorem Cols.ix {H : Hp} {c : Addr} {ps : List Addr} {cols : List (List Nat)} (h : Cols H c ps cols) {k : Nat} (hk : k < cols.length) : ∃ (p : Addr) (xs : List Nat), ps[k]? = some p ∧ cols[k]? = some xs ∧ atI (ps.map V.ref) (k : Int) = some (.ref p) ∧ H p = some (.lst ((natI xs).map V.int)) := by
  have hkp : k < ps.length := by rw [h.2.1.1]; exact hk
  have h1 := List.getElem?_eq_getElem hkp
  have h2 := List.getElem?_eq_getElem hk
  exact ⟨_, _, h1, h2, atI_nat (by rw [List.getElem?_map, h1]; rfl), h.2.1.2 k _ _ h1 h2⟩
end Dpr

namespace Dpr
open PySem PySem.Spec PyProof.Rows L2
/-! max and min of a tuple of ints -/
section
variable {prog : Program} {w : World} {A : Around} {E : Value → Shared → Prop} {s : Shared} {l : Addr} {xs : Array (Int × Tok)}
theorem iter_intTup {Q : Value → Shared → Prop} (hl : s.heap.IsTuple l (intItems xs))
    (h : ∀ s₂ : Shared, s₂ = { s with heap := s.heap.push { cls := .type "tuple_iterator", data := .fields #[.ref l, .int 0 0] } } →
      (s₂.heap.IsTupleIter s.heap.objs.size l 0 ∧ s₂.heap.IsTuple l (intItems xs)) → (∀ b ∈ [s.heap.objs.size, l], b < s₂.heap.objs.size) → l ≠ s.heap.objs.size → Q (.ref s.heap.objs.size) s₂) :
    wpAny (model prog w) A (pyIter (.ref l)) Q E s := by
  have hlt : l < s.heap.objs.size := by obtain ⟨_, e, _⟩ := hl; exact Heap.lt_size e
  refine wpAny_pyIter_tuple hl (h _ rfl ⟨⟨_, Heap.get?_push_size _ rfl, rfl, rfl⟩, hl.push _⟩ (fun b hb => ?_) (Nat.ne_of_lt hlt))
  show b < (s.heap.push _).objs.size
  rw [Heap.size_push]
  rcases List.mem_cons.mp hb with rfl | hb
  · exact Nat.lt_succ_self _
  · rcases List.mem_cons.mp hb with rfl | hb
    · exact Nat.lt_succ_of_lt hlt
    · cases hb
theorem old_keptT {h' : Heap} (hk : ∀ b o, b ∉ [s.heap.objs.size] → (s.heap.push { cls := .type "tuple_iterator", data := .fields #[.ref l, .int 0 0] }).get? b = some o → h'.get? b = some o) :
    ∀ b o, s.heap.get? b = some o → h'.get? b = some o := fun b o e => by
  refine hk b o (fun hm => ?_) (Heap.get?_push_of_some _ e)
  rcases List.mem_cons.mp hm with e1 | hm
  · exact absurd (e1 ▸ Heap.lt_size e) (Nat.lt_irrefl _)
  · cases hm
theorem max_intTup {Q : Value → Shared → Prop} (hh : A.handled = none) (hl : s.heap.IsTuple l (intItems xs)) (hne : 0 < xs.size)
    (h : ∀ v h' tk, (intItems xs)[argBest (fun i j => decide (numAt xs i > numAt xs j)) (xs.size - 1)]? = some v → (∀ b o, s.heap.get? b = some o → h'.get? b = some o) → Q v { s with heap := h', toks := tk }) :
    wpAny (model prog w) A (call (.builtin "max") [.ref l]) Q E s := by
  refine call_max_walk (iter_intTup hl fun s₂ e st hfp hlI => ?_)
  subst e
  refine ⟨_, _, _, _, _, _, _, rfl, Walks.tuple (A := A.in1) hh _ l hlI (intItems xs), st, hfp, by simpa [intItems] using hne, CmpOf.ints_gt (numAt xs) (fun _ _ => intItems_at), fun v h' tk hP hk => ?_⟩
  exact h v h' tk (by simpa [intItems] using hP) (old_keptT hk)
theorem min_intTup {Q : Value → Shared → Prop} (hh : A.handled = none) (hl : s.heap.IsTuple l (intItems xs)) (hne : 0 < xs.size)
    (h : ∀ v h' tk, (intItems xs)[argBest (fun i j => decide (numAt xs i < numAt xs j)) (xs.size - 1)]? = some v → (∀ b o, s.heap.get? b = some o → h'.get? b = some o) → Q v { s with heap := h', toks := tk }) :
    wpAny (model prog w) A (call (.builtin "min") [.ref l]) Q E s := by
  refine call_min_walk (iter_intTup hl fun s₂ e st hfp hlI => ?_)
  subst e
  refine ⟨_, _, _, _, _, _, _, rfl, Walks.tuple (A := A.in1) hh _ l hlI (intItems xs), st, hfp, by simpa [intItems] using hne, CmpOf.ints_lt (numAt xs) (fun _ _ => intItems_at), fun v h' tk hP hk => ?_⟩
  exact h v h' tk (by simpa [intItems] using hP) (old_keptT hk)
variable {its : List Value} {ns : List Int}
theorem max_rawT {Q : Value → Shared → Prop} (hh : A.handled = none) (hl : s.heap.IsTuple l its.toArray) (hi : IntsAre its ns) (hne : 0 < ns.length)
    (h : ∀ h' tk M t', (∀ b o, s.heap.get? b = some o → h'.get? b = some o) → M ∈ ns → (∀ a, a ∈ ns → a ≤ M) → Q (.int M t') { s with heap := h', toks := tk }) : wpAny (model prog w) A (call (.builtin "max") [.ref l]) Q E s := by
  obtain ⟨xs, e⟩ := hi.allInts.items
  have hn : numsOf (intItems xs).toList = ns := by rw [← e]; exact hi.numsOf
  rw [nums_intItems] at hn
  subst hn
  rw [e] at hl
  have hsz : 0 < xs.size := by simpa using hne
  refine max_intTup hh hl hsz fun v h' tk hv hk => ?_
  obtain ⟨t, rfl⟩ := intItems_at hv
  obtain ⟨h1, h2⟩ := argBest_gt (numAt xs) (xs.size - 1)
  refine h h' tk _ t hk ?_ fun a ha => ?_
  · rw [numAt_eq]; exact PySem.getD_mem (by rw [List.length_map, Array.length_toList]; omega)
  · obtain ⟨j, hj, rfl⟩ := mem_getD ha
    rw [List.length_map, Array.length_toList] at hj
    rw [← numAt_eq]; exact h2 j (by omega)
theorem min_rawT {Q : Value → Shared → Prop} (hh : A.handled = none) (hl : s.heap.IsTuple l its.toArray) (hi : IntsAre its ns) (hne : 0 < ns.length)
    (h : ∀ h' tk M t', (∀ b o, s.heap.get? b = some o → h'.get? b = some o) → M ∈ ns → (∀ a, a ∈ ns → M ≤ a) → Q (.int M t') { s with heap := h', toks := tk }) : wpAny (model prog w) A (call (.builtin "min") [.ref l]) Q E s := by
  obtain ⟨xs, e⟩ := hi.allInts.items
  have hn : numsOf (intItems xs).toList = ns := by rw [← e]; exact hi.numsOf
  rw [nums_intItems] at hn
  subst hn
  rw [e] at hl
  have hsz : 0 < xs.size := by simpa using hne
  refine min_intTup hh hl hsz fun v h' tk hv hk => ?_
  obtain ⟨t, rfl⟩ := intItems_at hv
  obtain ⟨h1, h2⟩ := argBest_lt (numAt xs) (xs.size - 1)
  refine h h' tk _ t hk ?_ fun a ha => ?_
  · rw [numAt_eq]; exact PySem.getD_mem (by rw [List.length_map, Array.length_toList]; omega)
  · obtain ⟨j, hj, rfl⟩ := mem_getD ha
    rw [List.length_map, Array.length_toList] at hj
    rw [← numAt_eq]; exact h2 j (by omega)
end
def rMaxT (K : PySem.W.Frag) : List V → Hp → VK → Prop := fun vs H Q => ∃ (a : Addr) (ns : List Int), vs = [V.ref a] ∧ SqT K H a (ns.map V.int) ∧ 0 < ns.length ∧ ∀ m, m ∈ ns → (∀ y, y ∈ ns → y ≤ m) → Q (.int m) H
def rMinT (K : PySem.W.Frag) : List V → Hp → VK → Prop := fun vs H Q => ∃ (a : Addr) (ns : List Int), vs = [V.ref a] ∧ SqT K H a (ns.map V.int) ∧ 0 < ns.length ∧ ∀ m, m ∈ ns → (∀ y, y ∈ ns → m ≤ y) → Q (.int m) H
theorem cr_maxT {X : Cx} (K : PySem.W.Frag) (ek : X.K = K := by rfl) (hc : X.calm = true := by rfl) : CallR X (.builtin "max") (rMaxT K) := by
  subst ek
  intro pins s σ H vs us Q I r h
  obtain ⟨a, ns, rfl, hs, hne, q⟩ := h
  obtain ⟨its, rv, hl, _⟩ := I.tuple hs
  rw [Vals.ref1 r]
  exact max_rawT (I.ok.hd hc) hl rv.ints hne fun h' tk m t' hk h1 h2 => ⟨.int _, H, I.kept hk, ⟨_, rfl⟩, q m h1 h2⟩
theorem cr_minT {X : Cx} (K : PySem.W.Frag) (ek : X.K = K := by rfl) (hc : X.calm = true := by rfl) : CallR X (.builtin "min") (rMinT K) := by
  subst ek
  intro pins s σ H vs us Q I r h
  obtain ⟨a, ns, rfl, hs, hne, q⟩ := h
  obtain ⟨its, rv, hl, _⟩ := I.tuple hs
  rw [Vals.ref1 r]
  exact min_rawT (I.ok.hd hc) hl rv.ints hne fun h' tk m t' hk h1 h2 => ⟨.int _, H, I.kept hk, ⟨_, rfl⟩, q m h1 h2⟩
theorem w_maxT {K : PySem.W.Frag} {H : Hp} {Q : VK} {p : Addr} {ns : List Int} (h : SqT K H p (ns.map V.int)) (hn : 0 < ns.length) (q : ∀ m, m ∈ ns → (∀ y ∈ ns, y ≤ m) → Q (.int m) H) : rMaxT K [.ref p] H Q := ⟨p, ns, rfl, h, hn, q⟩
theorem w_minT {K : PySem.W.Frag} {H : Hp} {Q : VK} {p : Addr} {ns : List Int} (h : SqT K H p (ns.map V.int)) (hn : 0 < ns.length) (q : ∀ m, m ∈ ns → (∀ y ∈ ns, m ≤ y) → Q (.int m) H) : rMinT K [.ref p] H Q := ⟨p, ns, rfl, h, hn, q⟩
end Dpr

namespace Dpr
open PySem PySem.Spec PyProof.Rows L2
/-- for (x, y, ..) in a list that stands -/
theorem for_lg {K : PySem.W.Frag} {D : Ends} {σ : L2.St} {H : Hp} {t : TS} {g : TG} {a : Addr} (xs : List V) (Pv : Nat → L2.St → Hp → Prop) (h0 : Pv 0 σ H) (hl : ∀ i σ H, i ≤ xs.length → Pv i σ H → SqL K H a xs)
    (hs : ∀ i x σ' H', xs[i]? = some x → Pv i σ' H' → g x σ' H' fun σ2 H2 => t { D with nx := Pv (i + 1), ct := Pv (i + 1), bk := D.nx } σ2 H2) (hd : ∀ σ' H', Pv xs.length σ' H' → D.nx σ' H') : ForB (Itl K a) g t D σ H :=
  for_list Pv h0 hl hs hd
/-! [tab[w] for w in a tuple, a list] -/
section
variable {K : PySem.W.Frag} {σ : L2.St} {H : Hp} {Q : VK} {vs : List Nat} {a tab : Addr} {j s : Nat} {L : List Int}
theorem look_step {xs : List V} (ws : List Nat) (f : Nat → Int) (hxs : xs = (natI ws).map V.int) (h1 : ∀ x, ((wipe σ vs).set j (some x))[s]? = some (some (.ref tab))) (h2 : ∀ x, ((wipe σ vs).set j (some x))[j]? = some (some x)) (hT : SqL K H tab (L.map V.int)) (hL : ∀ w ∈ ws, atI (L.map V.int) (w : Int) = some (.int (f w)))
    (i : Nat) (x y : V) (H' : Hp) (Q' : VK) (hx : xs[i]? = some x) (hy : ((ws.map f).map V.int)[i]? = some y) (sm : Same H H') (k : Q' y H') : tOp (rIxL K) (tVar s) (tVar j) ((wipe σ vs).set j (some x)) H' Q' := by
  subst hxs
  obtain ⟨z, hz, rfl⟩ := get_map hx
  obtain ⟨w, hw, rfl⟩ := natI_get hz
  rw [List.getElem?_map, List.getElem?_map, hw] at hy
  cases hy
  exact ⟨_, h1 _, _, h2 _, _, _, _, _, rfl, rfl, sm.seq hT, hL w (List.mem_of_getElem? hw), k⟩
theorem lc_lookT (ws : List Nat) (f : Nat → Int) {xs : List V} (hxs : xs = (natI ws).map V.int) (hS : SqT K H a xs) (hz : ws.length ≤ 100000) (hw : ∀ x, wipe ((wipe σ vs).set j (some x)) vs = wipe σ vs) (h1 : ∀ x, ((wipe σ vs).set j (some x))[s]? = some (some (.ref tab))) (h2 : ∀ x, ((wipe σ vs).set j (some x))[j]? = some (some x))
    (hT : SqL K H tab (L.map V.int)) (hL : ∀ w ∈ ws, atI (L.map V.int) (w : Int) = some (.int (f w))) (q : ∀ p H', H p = none → Same H H' → H' p = some (.lst ((ws.map f).map V.int)) → Q (.ref p) H') : LcB (Itt K a) (gName j) tYes (tOp (rIxL K) (tVar s) (tVar j)) vs σ Q H :=
  lc_t xs ((ws.map f).map V.int) (by rw [hxs, List.length_map, List.length_map, List.length_map, natI_len]) hS (by rw [hxs, List.length_map, natI_len]; omega) hw (fun i x y H' Q' hx hy sm k => look_step ws f hxs h1 h2 hT hL i x y H' Q' hx hy sm k) q
theorem lc_lookL (ws : List Nat) (f : Nat → Int) {xs : List V} (hxs : xs = (natI ws).map V.int) (hS : SqL K H a xs) (hz : ws.length ≤ 100000) (hw : ∀ x, wipe ((wipe σ vs).set j (some x)) vs = wipe σ vs) (h1 : ∀ x, ((wipe σ vs).set j (some x))[s]? = some (some (.ref tab))) (h2 : ∀ x, ((wipe σ vs).set j (some x))[j]? = some (some x))
    (hT : SqL K H tab (L.map V.int)) (hL : ∀ w ∈ ws, atI (L.map V.int) (w : Int) = some (.int (f w))) (q : ∀ p H', H p = none → Same H H' → H' p = some (.lst ((ws.map f).map V.int)) → Q (.ref p) H') : LcB (Itl K a) (gName j) tYes (tOp (rIxL K) (tVar s) (tVar j)) vs σ Q H :=
  lc_l xs ((ws.map f).map V.int) (by rw [hxs, List.length_map, List.length_map, List.length_map, natI_len]) hS (by rw [hxs, List.length_map, natI_len]; omega) hw (fun i x y H' Q' hx hy sm k => look_step ws f hxs h1 h2 hT hL i x y H' Q' hx hy sm k) q
end
theorem bit_at' {ws : List (Str × Int)} {ks : List Row} {w : Nat} (h : w < ks.length) : atI ((toldL ws ks).map V.int) (w : Int) = some (.int (bit ws ks w)) := by
  rw [bit_get (by rw [toldL_len]; exact h)]
  rfl
theorem dep_at' {ks : List Row} {w : Nat} (h : w < ks.length) : atI ((depthL ks).map V.int) (w : Int) = some (.int (dep ks w)) := by
  rw [bit_get (by rw [show (depthL ks).length = ks.length from runL_len ..]; exact h)]
  rfl
end Dpr

namespace Dpr
open PySem PySem.Spec PyProof.Rows L2
/-- the places of a list whose items are told by a test -/
def selP (xs : List V) (sel : V → Bool) : Nat → List Nat
  | 0 => []
  | n + 1 => match xs[n]? with
    | some x => if sel x = true then selP xs sel n ++ [n] else selP xs sel n
    | none => selP xs sel n
/-- [k for k, x in enumerate(a list) if ..] -/
theorem lc_ef {K : PySem.W.Frag} {σ : L2.St} {H : Hp} {Q : VK} {tt : TT} {te : TE} {vs : List Nat} {a : Addr} {j k : Nat} (xs : List V) (sel : V → Bool) (hS : SqL K H a xs) (hz : xs.length ≤ 1000000) (hw : ∀ x y, wipe (((wipe σ vs).set j (some x)).set k (some y)) vs = wipe σ vs)
    (ht : ∀ (n : Nat) x H' (QB : Bool → Hp → Prop), xs[n]? = some x → Same H H' → QB (sel x) H' → tt (((wipe σ vs).set j (some (.int (n : Int)))).set k (some x)) H' QB)
    (he : ∀ (n : Nat) x H' (Q' : VK), xs[n]? = some x → Same H H' → Q' (.int (n : Int)) H' → te (((wipe σ vs).set j (some (.int (n : Int)))).set k (some x)) H' Q')
    (q : ∀ p H', H p = none → Same H H' → H' p = some (.lst ((natI (selP xs sel xs.length)).map V.int)) → Q (.ref p) H') : LcB (Ite K a) (gTup K 2 (gCons (gName j) (gCons (gName k) gNil))) tt te vs σ Q H := fun D hD => by
  have len : ∀ n, (selP xs sel n).length ≤ n := by
    intro n
    induction n with
    | zero => exact Nat.le_refl _
    | succ n ih =>
      unfold selP
      split
      · split
        · rw [List.length_append, List.length_singleton]; omega
        · omega
      · omega
  refine ⟨fun i m H' => m = xs.length - i ∧ i ≤ xs.length ∧ Same H H' ∧ H' D = some (.lst ((natI (selP xs sel i)).map V.int)), ⟨xs.length, by simp, Nat.zero_le _, same_upd hD, upd_same⟩, ?_⟩
  rintro i m H' ⟨rfl, hi, sm, eD⟩
  have qS := sm.seq hS
  by_cases hlt : i < xs.length
  · refine .inr ⟨⟨xs, xs[i], qS, by simp [hlt]⟩, fun H2 => Same H H2 ∧ H2 D = some (.lst ((natI (selP xs sel (i + 1))).map V.int)), fun H2 p' => ⟨xs.length - (i + 1), by omega, rfl, hlt, p'.1, p'.2⟩, fun x H2 y => ?_⟩
    obtain ⟨T, y, rfl, nT, rfl, hy⟩ := y
    have hyi : xs[i]? = some y := hy xs qS
    have s2 : Same H' (upd H' T (.tup [.int (i : Int), y])) := same_upd nT
    have eD2 := s2 _ _ eD
    refine ⟨T, _, rfl, SqT.of upd_same, rfl, _, _, rfl, _, _, rfl, rfl, hw _ _, ht i y _ _ hyi (sm.trans s2) ?_⟩
    have e1 : selP xs sel (i + 1) = if sel y = true then selP xs sel i ++ [i] else selP xs sel i := by
      show (match xs[i]? with | some x => _ | none => _) = _
      rw [hyi]
    generalize upd H' T (.tup [.int (i : Int), y]) = H3 at *
    cases hsel : sel y with
    | true =>
      rw [hsel, if_pos rfl] at e1
      refine w_itT (he i y H3 _ hyi (sm.trans s2) ⟨_, eD2, ?_, same_mut (sm.trans s2) hD, ?_⟩)
      · rw [List.length_map, natI_len]
        have := len i
        exact Nat.lt_of_lt_of_le (show (selP xs sel i).length < 16777216 by omega) (by rw [sizeLine_eq]; exact Nat.le_refl _)
      · rw [upd_same, nat_snoc, e1]
    | false =>
      rw [hsel, if_neg Bool.false_ne_true] at e1
      exact w_itF ⟨sm.trans s2, by rw [e1]; exact eD2⟩
  · have e : i = xs.length := by omega
    subst e
    exact .inl ⟨⟨xs, qS, Nat.le_refl _⟩, q D H' hD sm eD⟩
end Dpr

namespace Dpr
open PySem PySem.Spec PyProof.Rows L2
/-! dots pressed, the mathematics -/
def pressR (n x y z : Nat) : List Row := [.bin .xor x y, .bin .xor n z, .bin .and x y, .bin .and n z, .bin .or (n + 2) (n + 3)]
def pressC (cols : List (List Nat)) (k n : Nat) (t : List Nat) : List (List Nat) := addC (addC (cols.set k t) k (n + 1)) (k + 1) (n + 4)
inductive PChain (rs : List Row) (cols : List (List Nat)) : List Nat → List Row → List (List Nat) → Prop
  | nil : PChain rs cols [] rs cols
  | snoc {ks : List Nat} {rs1 : List Row} {cols1 : List (List Nat)} {k x y z : Nat} {t : List Nat} (h : PChain rs cols ks rs1 cols1) (hk : cols1[k]? = some (x :: y :: z :: t)) : PChain rs cols (ks ++ [k]) (rs1 ++ pressR rs1.length x y z) (pressC cols1 k rs1.length t)
theorem PChain.trans {rs : List Row} {cols : List (List Nat)} {ks : List Nat} {rs1 : List Row} {cols1 : List (List Nat)} (h : PChain rs cols ks rs1 cols1) {ls : List Nat} {rs2 : List Row} {cols2 : List (List Nat)} (k : PChain rs1 cols1 ls rs2 cols2) : PChain rs cols (ks ++ ls) rs2 cols2 := by
  induction k with
  | nil => rw [List.append_nil]; exact h
  | snoc _ hk ih => rw [← List.append_assoc]; exact ih.snoc hk
def DotsOk (rs : List Row) (cols : List (List Nat)) : Prop := ∀ xs ∈ cols, ∀ w ∈ xs, w < rs.length
theorem pressR_len (n x y z : Nat) : (pressR n x y z).length = 5 := rfl
theorem mem_addC {cols : List (List Nat)} {k w : Nat} {xs : List Nat} (h : xs ∈ addC cols k w) : xs ∈ cols ∨ ∃ ys ∈ cols, xs = ys ++ [w] := by
  unfold addC at h
  cases e : cols[k]? with
  | some ys =>
    rw [e] at h
    rcases List.mem_or_eq_of_mem_set h with z | z
    · exact .inl z
    · exact .inr ⟨ys, List.mem_of_getElem? e, z⟩
  | none =>
    rw [e] at h
    exact .inl h
theorem pressC_len (cols : List (List Nat)) (k n : Nat) (t : List Nat) : (pressC cols k n t).length = cols.length := by
  unfold pressC
  rw [addC_len, addC_len, List.length_set]
theorem dots_press {rs : List Row} {cols : List (List Nat)} (h : DotsOk rs cols) {k x y z : Nat} {t : List Nat} (hk : cols[k]? = some (x :: y :: z :: t)) : DotsOk (rs ++ pressR rs.length x y z) (pressC cols k rs.length t) := by
  have h0 := h _ (List.mem_of_getElem? hk)
  have hl : (rs ++ pressR rs.length x y z).length = rs.length + 5 := by rw [List.length_append]; rfl
  have b0 : ∀ xs ∈ cols.set k t, ∀ w ∈ xs, w < rs.length := fun xs m w hw => by
    rcases List.mem_or_eq_of_mem_set m with q | q
    · exact h xs q w hw
    · rw [q] at hw
      exact h0 w (List.mem_cons_of_mem _ (List.mem_cons_of_mem _ (List.mem_cons_of_mem _ hw)))
  have b1 : ∀ xs ∈ addC (cols.set k t) k (rs.length + 1), ∀ w ∈ xs, w < rs.length + 5 := fun xs m w hw => by
    rcases mem_addC m with q | ⟨ys, q, rfl⟩
    · have := b0 xs q w hw; omega
    · rcases List.mem_append.mp hw with e | e
      · have := b0 ys q w e; omega
      · rw [List.mem_singleton.mp e]; omega
  intro xs m w hw
  rw [hl]
  rcases mem_addC m with q | ⟨ys, q, rfl⟩
  · exact b1 xs q w hw
  · rcases List.mem_append.mp hw with e | e
    · exact b1 ys q w e
    · rw [List.mem_singleton.mp e]; omega
theorem press_rows {N : Str → Prop} {rs : List Row} (ok : RowsOk N rs) {x y z : Nat} (hx : x < rs.length) (hy : y < rs.length) (hz : z < rs.length) : RowsOk N (rs ++ pressR rs.length x y z) := by
  have e : rs ++ pressR rs.length x y z = ((((rs ++ [.bin .xor x y]) ++ [.bin .xor rs.length z]) ++ [.bin .and x y]) ++ [.bin .and rs.length z]) ++ [.bin .or (rs.length + 2) (rs.length + 3)] := by
    simp only [pressR, List.append_assoc, List.cons_append, List.nil_append]
  rw [e]
  refine ((((ok.snoc (show RowOk N _ (.bin .xor x y) from ⟨hx, hy⟩)).snoc (show RowOk N _ (.bin .xor rs.length z) from ⟨?_, ?_⟩)).snoc (show RowOk N _ (.bin .and x y) from ⟨?_, ?_⟩)).snoc (show RowOk N _ (.bin .and rs.length z) from ⟨?_, ?_⟩)).snoc (show RowOk N _ (.bin .or (rs.length + 2) (rs.length + 3)) from ⟨?_, ?_⟩) <;> simp only [List.length_append, List.length_cons, List.length_nil] <;> omega
theorem press_nolat {rs : List Row} {n x y z : Nat} (nl : NoLats rs) : NoLats (rs ++ pressR n x y z) := by
  intro r hr
  rcases List.mem_append.mp hr with q | q
  · exact nl r q
  · simp only [pressR, List.mem_cons, List.not_mem_nil, or_false] at q
    rcases q with rfl | rfl | rfl | rfl | rfl <;> exact True.intro
/-- later rows -/
def Later (ks ks' : List Row) : Prop := ∃ t, ks' = ks ++ t
theorem Later.refl (ks : List Row) : Later ks ks := ⟨[], (List.append_nil ks).symm⟩
theorem Later.trans {a b c : List Row} (h : Later a b) (k : Later b c) : Later a c := by
  obtain ⟨t, rfl⟩ := h
  obtain ⟨u, rfl⟩ := k
  exact ⟨t ++ u, List.append_assoc ..⟩
theorem Later.get {a b : List Row} (h : Later a b) {i : Nat} {r : Row} (e : a[i]? = some r) : b[i]? = some r := by
  obtain ⟨t, rfl⟩ := h
  rw [List.getElem?_append_left (List.getElem?_eq_some_iff.mp e).1]
  exact e
theorem PChain.later {rs : List Row} {cols : List (List Nat)} {ks : List Nat} {rs1 : List Row} {cols1 : List (List Nat)} (h : PChain rs cols ks rs1 cols1) : Later rs rs1 := by
  induction h with
  | nil => exact Later.refl _
  | snoc _ _ ih => exact ih.trans ⟨_, rfl⟩
theorem PChain.len {rs : List Row} {cols : List (List Nat)} {ks : List Nat} {rs1 : List Row} {cols1 : List (List Nat)} (h : PChain rs cols ks rs1 cols1) : rs1.length = rs.length + 5 * ks.length ∧ cols1.length = cols.length := by
  induction h with
  | nil => exact ⟨by simp, rfl⟩
  | snoc _ _ ih => exact ⟨by rw [List.length_append, pressR_len, List.length_append, List.length_singleton, ih.1]; omega, by rw [pressC_len, ih.2]⟩
theorem PChain.ok {N : Str → Prop} {rs : List Row} {cols : List (List Nat)} {ks : List Nat} {rs1 : List Row} {cols1 : List (List Nat)} (h : PChain rs cols ks rs1 cols1) (ok : RowsOk N rs) (nl : NoLats rs) (dk : DotsOk rs cols) : RowsOk N rs1 ∧ NoLats rs1 ∧ DotsOk rs1 cols1 := by
  induction h with
  | nil => exact ⟨ok, nl, dk⟩
  | snoc _ hk ih =>
    have b := ih.2.2 _ (List.mem_of_getElem? hk)
    exact ⟨press_rows ih.1 (b _ (List.mem_cons_self ..)) (b _ (List.mem_cons_of_mem _ (List.mem_cons_self ..))) (b _ (List.mem_cons_of_mem _ (List.mem_cons_of_mem _ (List.mem_cons_self ..)))), press_nolat ih.2.1, dots_press ih.2.2 hk⟩
/-- the bits of the two new dots, in any later rows -/
theorem press_bits {N : Str → Prop} {rs R : List Row} (ok : RowsOk N R) {x y z : Nat} (hx : x < rs.length) (hy : y < rs.length) (hz : z < rs.length) (l : Later (rs ++ pressR rs.length x y z) R) (ws : List (Str × Int)) :
    bit ws R (rs.length + 1) = (bit ws R x + bit ws R y + bit ws R z) % 2 ∧ bit ws R (rs.length + 4) = (bit ws R x + bit ws R y + bit ws R z) / 2 := by
  have g : ∀ (i : Nat) (r : Row), (pressR rs.length x y z)[i]? = some r → R[rs.length + i]? = some r := fun i r e => l.get (by rw [List.getElem?_append_right (by omega), show rs.length + i - rs.length = i by omega]; exact e)
  have g0 : R[rs.length]? = some (.bin .xor x y) := g 0 _ rfl
  have g1 : R[rs.length + 1]? = some (.bin .xor rs.length z) := g 1 _ rfl
  have g2 : R[rs.length + 2]? = some (.bin .and x y) := g 2 _ rfl
  have g3 : R[rs.length + 3]? = some (.bin .and rs.length z) := g 3 _ rfl
  have g4 : R[rs.length + 4]? = some (.bin .or (rs.length + 2) (rs.length + 3)) := g 4 _ rfl
  rw [bit_bin ok g4, bit_bin ok g3, bit_bin ok g2, bit_bin ok g1, bit_bin ok g0]
  rcases bit_01 ok ws x with e1 | e1 <;> rcases bit_01 ok ws y with e2 | e2 <;> rcases bit_01 ok ws z with e3 | e3 <;> rw [e1, e2, e3] <;> exact ⟨rfl, rfl⟩
/-! heights -/
def bump (hs : List Nat) (k : Nat) : List Nat := hs.set k (hs.getD k 0 + 1)
def stepH (hs : List Nat) (k : Nat) : List Nat := bump (hs.set k (hs.getD k 0 - 2)) (k + 1)
theorem lens_get (cols : List (List Nat)) (k : Nat) : (lens cols)[k]? = (cols[k]?).map (·.length) := by unfold lens; rw [List.getElem?_map]
theorem lens_set (cols : List (List Nat)) (k : Nat) (t : List Nat) : lens (cols.set k t) = (lens cols).set k t.length := by unfold lens; rw [List.map_set]
theorem lens_bump (cols : List (List Nat)) (k w : Nat) : lens (addC cols k w) = bump (lens cols) k := by
  unfold addC bump
  cases e : cols[k]? with
  | some xs =>
    show lens (cols.set k (xs ++ [w])) = _
    rw [lens_set, List.length_append, List.length_singleton, List.getD_eq_getElem?_getD, lens_get, e]
    rfl
  | none =>
    show lens cols = _
    rw [List.set_eq_of_length_le (by rw [lens, List.length_map]; exact List.getElem?_eq_none_iff.mp e)]
theorem lens_press {cols : List (List Nat)} {k n x y z : Nat} {t : List Nat} (hk : cols[k]? = some (x :: y :: z :: t)) : lens (pressC cols k n t) = stepH (lens cols) k := by
  have hl : k < (lens cols).length := by unfold lens; rw [List.length_map]; exact (List.getElem?_eq_some_iff.mp hk).1
  have hg : (lens cols).getD k 0 = t.length + 3 := by rw [List.getD_eq_getElem?_getD, lens_get, hk]; rfl
  unfold pressC stepH
  rw [lens_bump, lens_bump, lens_set, hg]
  congr 1
  unfold bump
  rw [List.getD_eq_getElem?_getD, List.getElem?_set, if_pos rfl, if_pos hl, List.set_set]
  rfl
end Dpr

namespace Dpr
open PySem PySem.Spec PyProof.Rows L2
/-! an order -/
def selN (p : Nat → Bool) : Nat → List Nat
  | 0 => []
  | n + 1 => if p n = true then selN p n ++ [n] else selN p n
theorem selN_mem {p : Nat → Bool} {x : Nat} : ∀ {n : Nat}, x ∈ selN p n → x < n ∧ p x = true
  | 0, h => by cases h
  | n + 1, h => by
    unfold selN at h
    split at h
    · rename_i e
      rcases List.mem_append.mp h with q | q
      · have := selN_mem q; exact ⟨by omega, this.2⟩
      · rw [List.mem_singleton.mp q]; exact ⟨by omega, e⟩
    · have := selN_mem h; exact ⟨by omega, this.2⟩
theorem selN_len (p : Nat → Bool) : ∀ n : Nat, (selN p n).length ≤ n
  | 0 => Nat.le_refl _
  | n + 1 => by
    have := selN_len p n
    unfold selN
    split
    · rw [List.length_append, List.length_singleton]; omega
    · omega
theorem selN_nil {p : Nat → Bool} : ∀ {n : Nat}, selN p n = [] → ∀ i, i < n → p i = false
  | 0, _, i, h => by omega
  | n + 1, e, i, h => by
    unfold selN at e
    split at e
    · simp at e
    · rename_i hn
      by_cases c : i = n
      · rw [c]
        cases q : p n with
        | true => exact absurd q hn
        | false => rfl
      · exact selN_nil e i (by omega)
def over2 (hs : List Nat) (i : Nat) : Bool := decide (2 < hs.getD i 0)
def ready (hs : List Nat) : List Nat := selN (over2 hs) hs.length
theorem selP_ready (hs : List Nat) (sel : V → Bool) (hsel : ∀ h : Nat, sel (.int (h : Int)) = decide (2 < h)) : ∀ n : Nat, n ≤ hs.length → selP ((natI hs).map V.int) sel n = selN (over2 hs) n
  | 0, _ => rfl
  | n + 1, h => by
    have hn : n < hs.length := by omega
    have e : ((natI hs).map V.int)[n]? = some (.int ((hs[n] : Nat) : Int)) := by
      rw [natI_map, List.getElem?_map, List.getElem?_eq_getElem hn]
      rfl
    unfold selP selN
    rw [e, selP_ready hs sel hsel n (by omega)]
    show (if sel (.int ((hs[n] : Nat) : Int)) = true then _ else _) = _
    rw [hsel]
    have e2 : over2 hs n = decide (2 < hs[n]) := by
      unfold over2
      rw [List.getD_eq_getElem?_getD, List.getElem?_eq_getElem hn]
      rfl
    rw [e2]
theorem ready_mem {hs : List Nat} {k : Nat} (h : k ∈ ready hs) : k < hs.length ∧ 3 ≤ hs.getD k 0 := by
  have := selN_mem h
  exact ⟨this.1, of_decide_eq_true this.2⟩
def pick (order : List Int) (j : Nat) (rd : List Nat) : Nat := if order.length = 0 then rd.getD 0 0 else rd.getD (order.getD (j % order.length) 0 % (rd.length : Int)).toNat 0
theorem pick_mem (order : List Int) (j : Nat) {rd : List Nat} (h : 0 < rd.length) : pick order j rd ∈ rd := by
  have key : ∀ i, i < rd.length → rd.getD i 0 ∈ rd := fun i hi => by
    rw [List.getD_eq_getElem?_getD, List.getElem?_eq_getElem hi]
    exact List.getElem_mem hi
  unfold pick
  split
  · exact key 0 h
  · refine key _ ?_
    have a := Int.emod_nonneg (order.getD (j % order.length) 0) (show (rd.length : Int) ≠ 0 by omega)
    have b := Int.emod_lt_of_pos (order.getD (j % order.length) 0) (show (0 : Int) < (rd.length : Int) by omega)
    omega
/-- one press after the other, by heights alone -/
def stepO (order : List Int) (s : List Nat × List Nat) : List Nat × List Nat := if (ready s.2).length = 0 then s else (s.1 ++ [pick order s.1.length (ready s.2)], stepH s.2 (pick order s.1.length (ready s.2)))
def itO (order : List Int) (hs : List Nat) : Nat → List Nat × List Nat
  | 0 => ([], hs)
  | n + 1 => stepO order (itO order hs n)
theorem itO_stop (order : List Int) (hs : List Nat) {n : Nat} (h : (ready (itO order hs n).2).length = 0) : ∀ m, itO order hs (n + m) = itO order hs n
  | 0 => rfl
  | m + 1 => by
    show stepO order (itO order hs (n + m)) = _
    rw [itO_stop order hs h m]
    unfold stepO
    rw [if_pos h]
theorem itO_one (order : List Int) (hs : List Nat) {n m : Nat} (h : (ready (itO order hs n).2).length = 0) (k : (ready (itO order hs m).2).length = 0) : itO order hs n = itO order hs m := by
  rcases Nat.le_total n m with q | q
  · obtain ⟨d, rfl⟩ := Nat.exists_eq_add_of_le q
    exact (itO_stop order hs h d).symm
  · obtain ⟨d, rfl⟩ := Nat.exists_eq_add_of_le q
    exact itO_stop order hs k d
theorem sum_set : ∀ (hs : List Nat) (k v : Nat), k < hs.length → (hs.set k v).sum + hs.getD k 0 = hs.sum + v
  | [], k, v, h => by simp at h
  | x :: r, 0, v, _ => by
    show v + r.sum + x = x + r.sum + v
    omega
  | x :: r, k + 1, v, h => by
    have := sum_set r k v (by simpa using h)
    show x + (r.set k v).sum + r.getD k 0 = x + r.sum + v
    omega
theorem sum_bump (hs : List Nat) (k : Nat) : (bump hs k).sum ≤ hs.sum + 1 := by
  unfold bump
  by_cases h : k < hs.length
  · have := sum_set hs k (hs.getD k 0 + 1) h
    omega
  · rw [List.set_eq_of_length_le (by omega)]
    omega
theorem sum_step {hs : List Nat} {k : Nat} (h : k < hs.length) (h3 : 3 ≤ hs.getD k 0) : (stepH hs k).sum + 1 ≤ hs.sum := by
  have a := sum_set hs k (hs.getD k 0 - 2) h
  have b := sum_bump (hs.set k (hs.getD k 0 - 2)) (k + 1)
  unfold stepH
  omega
theorem le_sum : ∀ {hs : List Nat} {x : Nat}, x ∈ hs → x ≤ hs.sum
  | y :: r, x, h => by
    rcases List.mem_cons.mp h with q | q
    · rw [q]
      show y ≤ y + r.sum
      omega
    · have := le_sum q
      show x ≤ y + r.sum
      omega
theorem lens_le {cols : List (List Nat)} {xs : List Nat} (h : xs ∈ cols) : xs.length ≤ (lens cols).sum := le_sum (List.mem_map.mpr ⟨xs, h, rfl⟩)
theorem three_of {cols : List (List Nat)} {k : Nat} (h : k < (lens cols).length) (h3 : 3 ≤ (lens cols).getD k 0) : ∃ x y z t, cols[k]? = some (x :: y :: z :: t) := by
  have hk : k < cols.length := by unfold lens at h; rwa [List.length_map] at h
  have e := List.getElem?_eq_getElem hk
  rw [List.getD_eq_getElem?_getD, lens_get, e] at h3
  generalize cols[k] = xs at e h3
  have h3 : 3 ≤ xs.length := h3
  cases xs with
  | nil => simp at h3
  | cons x u => cases u with
    | nil => simp at h3
    | cons y v => cases v with
      | nil => simp at h3
      | cons z t => exact ⟨x, y, z, t, e⟩
end Dpr

namespace Dpr
open PySem PySem.Spec PyProof.Rows L2
/-- [k for k in range(n) if ..] -/
theorem lc_rf {σ : L2.St} {H : Hp} {Q : VK} {tt : TT} {te : TE} {vs : List Nat} {n j : Nat} (sel : Nat → Bool) (hn : n < 1000000) (hw : ∀ x, wipe ((wipe σ vs).set j (some x)) vs = wipe σ vs)
    (ht : ∀ (i : Nat) H' (QB : Bool → Hp → Prop), i < n → Same H H' → QB (sel i) H' → tt ((wipe σ vs).set j (some (.int (i : Int)))) H' QB)
    (he : ∀ (i : Nat) H' (Q' : VK), i < n → Same H H' → Q' (.int (i : Int)) H' → te ((wipe σ vs).set j (some (.int (i : Int)))) H' Q')
    (q : ∀ p H', H p = none → Same H H' → H' p = some (.lst ((natI (selN sel n)).map V.int)) → Q (.ref p) H') : LcB (Itr 0 n) (gName j) tt te vs σ Q H := fun D hD =>
  lc_range (lo := 0) (n := n) (fun i H' => Same H H' ∧ H' D = some (.lst ((natI (selN sel i)).map V.int))) ⟨same_upd hD, upd_same⟩ (fun i H' hi e => by
    obtain ⟨sm, eD⟩ := e
    have e0 : V.int (0 + (i : Int)) = V.int (i : Int) := by rw [Int.zero_add]
    show wipe ((wipe σ vs).set j (some (V.int (0 + (i : Int))))) vs = wipe σ vs ∧ tt ((wipe σ vs).set j (some (V.int (0 + (i : Int))))) H' (fun b H3 => if b = true then te ((wipe σ vs).set j (some (V.int (0 + (i : Int))))) H3 (fun y H4 => ∃ acc, H4 D = some (.lst acc) ∧ acc.length < sizeLine ∧ (Same H (upd H4 D (.lst (acc ++ [y]))) ∧ (upd H4 D (.lst (acc ++ [y]))) D = some (.lst ((natI (selN sel (i + 1))).map V.int)))) else (Same H H3 ∧ H3 D = some (.lst ((natI (selN sel (i + 1))).map V.int))))
    rw [e0]
    refine ⟨hw _, ht i H' _ hi sm ?_⟩
    have e1 : selN sel (i + 1) = if sel i = true then selN sel i ++ [i] else selN sel i := rfl
    cases hs : sel i with
    | true =>
      rw [hs, if_pos rfl] at e1
      refine w_itT (he i H' _ hi sm ⟨_, eD, ?_, same_mut sm hD, ?_⟩)
      · rw [List.length_map, natI_len]
        have := selN_len sel i
        exact Nat.lt_of_lt_of_le (show (selN sel i).length < 16777216 by omega) (by rw [sizeLine_eq]; exact Nat.le_refl _)
      · rw [upd_same, nat_snoc, e1]
    | false =>
      rw [hs, if_neg Bool.false_ne_true] at e1
      exact w_itF ⟨sm, by rw [e1]; exact eD⟩) fun H' e => q D H' hD e.1 e.2
end Dpr

namespace Dpr
open PySem PySem.Spec PyProof.Rows L2
/-- a comprehension over a list that stands, whose elements are new objects -/
theorem lc_each {K : PySem.W.Frag} {σ : L2.St} {H : Hp} {Q : VK} {te : TE} {vs : List Nat} {a : Addr} {j : Nat} (xs : List V) (R : Nat → V → Hp → Prop) (m1 : ∀ i y G D ys zs, R i y G → G D = some (.lst ys) → R i y (upd G D (.lst zs))) (m2 : ∀ i y G G', R i y G → Same G G' → R i y G') (hS : SqL K H a xs) (hz : xs.length ≤ 1000000) (hw : ∀ x, wipe ((wipe σ vs).set j (some x)) vs = wipe σ vs)
    (he : ∀ (i : Nat) x H' (Q' : VK), xs[i]? = some x → Same H H' → (∀ y H2, Same H' H2 → R i y H2 → Q' y H2) → te ((wipe σ vs).set j (some x)) H' Q')
    (q : ∀ ys p H', H p = none → Same H H' → H' p = some (.lst ys) → ys.length = xs.length → (∀ i y, ys[i]? = some y → R i y H') → Q (.ref p) H') : LcB (Itl K a) (gName j) tYes te vs σ Q H := fun D hD =>
  lc_list (xs := xs) (fun i H' => ∃ ys : List V, ys.length = i ∧ Same H H' ∧ H' D = some (.lst ys) ∧ ∀ k y, ys[k]? = some y → R k y H') ⟨[], rfl, same_upd hD, upd_same, fun k y h => (by cases h)⟩ (fun i H' _ e => by
    obtain ⟨ys, hl, sm, eD, hR⟩ := e
    exact sm.seq hS) (fun i x H' hx e => by
    obtain ⟨ys, hl, sm, eD, hR⟩ := e
    have hi := (List.getElem?_eq_some_iff.mp hx).1
    show wipe ((wipe σ vs).set j (some x)) vs = wipe σ vs ∧ te ((wipe σ vs).set j (some x)) H'
      (fun y H4 => ∃ acc, H4 D = some (.lst acc) ∧ acc.length < sizeLine ∧ ∃ zs : List V, zs.length = i + 1 ∧ Same H (upd H4 D (.lst (acc ++ [y]))) ∧ (upd H4 D (.lst (acc ++ [y]))) D = some (.lst zs) ∧ ∀ k z, zs[k]? = some z → R k z (upd H4 D (.lst (acc ++ [y]))))
    refine ⟨hw _, he i x H' _ hx sm fun y H2 s2 r => ⟨ys, s2 _ _ eD, ?_, ys ++ [y], ?_, same_mut (sm.trans s2) hD, upd_same, fun k z hk => ?_⟩⟩
    · exact Nat.lt_of_lt_of_le (show ys.length < 16777216 by omega) (by rw [sizeLine_eq]; exact Nat.le_refl _)
    · rw [List.length_append, hl]
      rfl
    · refine m1 _ _ _ _ _ _ ?_ (s2 _ _ eD)
      by_cases c : k < ys.length
      · rw [List.getElem?_append_left c] at hk
        exact m2 _ _ _ _ (hR k z hk) s2
      · have hk2 := (List.getElem?_eq_some_iff.mp hk).1
        rw [List.length_append, List.length_singleton] at hk2
        have ek : k = ys.length := by omega
        subst ek
        rw [List.getElem?_append_right (Nat.le_refl _), Nat.sub_self] at hk
        cases hk
        rw [hl]
        exact r) fun H' e => by
    obtain ⟨ys, hl, sm, eD, hR⟩ := e
    exact q ys D H' hD sm eD hl hR
end Dpr

namespace Dpr
open PySem PySem.Spec PyProof.Rows L2
/-- [.. for k, x in enumerate(a list that stands)], whose elements leave the heap -/
theorem lc_e {K : PySem.W.Frag} {σ : L2.St} {H : Hp} {Q : VK} {te : TE} {vs : List Nat} {a : Addr} {j k : Nat} (xs ys : List V) (hlen : ys.length = xs.length) (hS : SqL K H a xs) (hz : xs.length ≤ 1000000) (hw : ∀ x y, wipe (((wipe σ vs).set j (some x)).set k (some y)) vs = wipe σ vs)
    (he : ∀ (n : Nat) x y H' (Q' : VK), xs[n]? = some x → ys[n]? = some y → Same H H' → Q' y H' → te (((wipe σ vs).set j (some (.int (n : Int)))).set k (some x)) H' Q')
    (q : ∀ p H', H p = none → Same H H' → H' p = some (.lst ys) → Q (.ref p) H') : LcB (Ite K a) (gTup K 2 (gCons (gName j) (gCons (gName k) gNil))) tYes te vs σ Q H := fun D hD => by
  refine ⟨fun i m H' => m = xs.length - i ∧ i ≤ xs.length ∧ Same H H' ∧ H' D = some (.lst (ys.take i)), ⟨xs.length, by simp, Nat.zero_le _, same_upd hD, upd_same⟩, ?_⟩
  rintro i m H' ⟨rfl, hi, sm, eD⟩
  have qS := sm.seq hS
  by_cases hlt : i < xs.length
  · refine .inr ⟨⟨xs, xs[i], qS, by simp [hlt]⟩, fun H2 => Same H H2 ∧ H2 D = some (.lst (ys.take (i + 1))), fun H2 p' => ⟨xs.length - (i + 1), by omega, rfl, hlt, p'.1, p'.2⟩, fun x H2 y => ?_⟩
    obtain ⟨T, y, rfl, nT, rfl, hy⟩ := y
    have hyi : xs[i]? = some y := hy xs qS
    have hyy : ys[i]? = some ys[i] := List.getElem?_eq_getElem (by omega)
    have s2 : Same H' (upd H' T (.tup [.int (i : Int), y])) := same_upd nT
    have eD2 := s2 _ _ eD
    refine ⟨T, _, rfl, SqT.of upd_same, rfl, _, _, rfl, _, _, rfl, rfl, hw _ _, ?_⟩
    refine he i y ys[i] _ _ hyi hyy (sm.trans s2) ⟨_, eD2, ?_, same_mut (sm.trans s2) hD, ?_⟩
    · rw [List.length_take]
      exact Nat.lt_of_lt_of_le (show min i ys.length < 16777216 by omega) (by rw [sizeLine_eq]; exact Nat.le_refl _)
    · rw [upd_same, take_snoc hyy]
  · have e : i = xs.length := by omega
    subst e
    rw [List.take_of_length_le (by omega)] at eD
    exact .inl ⟨⟨xs, qS, Nat.le_refl _⟩, q D H' hD sm eD⟩
end Dpr

namespace Dpr
open PySem PySem.Spec PyProof.Rows L2
theorem nat_set (hs : List Nat) (k v : Nat) : ((natI hs).map V.int).set k (.int (v : Int)) = (natI (hs.set k v)).map V.int := by
  rw [natI_map, natI_map, List.map_set]
theorem selN_has {p : Nat → Bool} {i : Nat} : ∀ {n : Nat}, i < n → p i = true → i ∈ selN p n
  | 0, h, _ => by omega
  | n + 1, h, hp => by
    unfold selN
    by_cases c : i = n
    · rw [← c, if_pos hp]
      exact List.mem_append_right _ (List.mem_cons_self ..)
    · have := selN_has (n := n) (by omega) hp
      split
      · exact List.mem_append_left _ this
      · exact this
theorem ready_pos {hs : List Nat} {x : Nat} (h : x ∈ hs) (h2 : 2 < x) : 0 < (ready hs).length := by
  obtain ⟨i, hi, e⟩ := List.getElem_of_mem h
  have : i ∈ ready hs := selN_has hi (by
    unfold over2
    rw [List.getD_eq_getElem?_getD, List.getElem?_eq_getElem hi, e]
    exact decide_eq_true h2)
  exact List.length_pos_of_mem this
theorem ready_zero {hs : List Nat} (h : ∀ x ∈ hs, x ≤ 2) : (ready hs).length = 0 := by
  cases e : ready hs with
  | nil => rfl
  | cons k r =>
    have hm : k ∈ ready hs := by rw [e]; exact List.mem_cons_self ..
    obtain ⟨h1, h3⟩ := ready_mem hm
    have := h hs[k] (List.getElem_mem h1)
    rw [List.getD_eq_getElem?_getD, List.getElem?_eq_getElem h1] at h3
    have h3 : 3 ≤ hs[k] := h3
    omega
theorem over2_at {hs : List Nat} {n : Nat} (h : n < hs.length) : decide ((2 : Int) < ((hs[n] : Nat) : Int)) = over2 hs n := by
  unfold over2
  rw [List.getD_eq_getElem?_getD, List.getElem?_eq_getElem h]
  exact decide_eq_decide.mpr ⟨fun q => by show 2 < hs[n]; omega, fun q => by have q : 2 < hs[n] := q; omega⟩
end Dpr

namespace Dpr
open PySem PySem.Spec PyProof.Rows L2
/-- a comprehension over a range, whose elements are new objects, each told by itself -/
theorem lc_eachR {σ : L2.St} {H : Hp} {Q : VK} {te : TE} {vs : List Nat} {n j : Nat} (R : Nat → Addr → Hp → Prop) (m1 : ∀ i p G D o, R i p G → p ≠ D → R i p (upd G D o)) (m2 : ∀ i y G G', R i y G → Same G G' → R i y G') (m3 : ∀ i p G, R i p G → G p ≠ none) (hn : n < 1000000) (hw : ∀ x, wipe ((wipe σ vs).set j (some x)) vs = wipe σ vs)
    (he : ∀ (i : Nat) H' (Q' : VK), i < n → Same H H' → (∀ p H2, Same H' H2 → H' p = none → R i p H2 → Q' (.ref p) H2) → te ((wipe σ vs).set j (some (.int (i : Int)))) H' Q')
    (q : ∀ (ps : List Addr) p H', H p = none → Same H H' → H' p = some (.lst (ps.map V.ref)) → ps.length = n → (∀ i q, ps[i]? = some q → R i q H' ∧ H q = none) → ps.Nodup → p ∉ ps → Q (.ref p) H') : LcB (Itr 0 n) (gName j) tYes te vs σ Q H := fun D hD =>
  lc_range (lo := 0) (n := n) (fun i H' => ∃ ps : List Addr, ps.length = i ∧ Same H H' ∧ H' D = some (.lst (ps.map V.ref)) ∧ (∀ k q, ps[k]? = some q → R k q H' ∧ H q = none) ∧ ps.Nodup ∧ D ∉ ps) ⟨[], rfl, same_upd hD, upd_same, fun k y h => (by cases h), List.nodup_nil, fun z => (by cases z)⟩ (fun i H' hi e => by
    obtain ⟨ps, hl, sm, eD, hR, nd, dn⟩ := e
    have e0 : V.int (0 + (i : Int)) = V.int (i : Int) := by rw [Int.zero_add]
    show wipe ((wipe σ vs).set j (some (V.int (0 + (i : Int))))) vs = wipe σ vs ∧ te ((wipe σ vs).set j (some (V.int (0 + (i : Int))))) H'
      (fun y H4 => ∃ acc, H4 D = some (.lst acc) ∧ acc.length < sizeLine ∧ ∃ zs : List Addr, zs.length = i + 1 ∧ Same H (upd H4 D (.lst (acc ++ [y]))) ∧ (upd H4 D (.lst (acc ++ [y]))) D = some (.lst (zs.map V.ref)) ∧ (∀ k q, zs[k]? = some q → R k q (upd H4 D (.lst (acc ++ [y]))) ∧ H q = none) ∧ zs.Nodup ∧ D ∉ zs)
    rw [e0]
    refine ⟨hw _, he i H' _ hi sm fun p H2 s2 np r => ⟨ps.map V.ref, s2 _ _ eD, ?_, ps ++ [p], ?_, same_mut (sm.trans s2) hD, by rw [upd_same, List.map_append]; rfl, ?_, ?_, ?_⟩⟩
    · rw [List.length_map]
      exact Nat.lt_of_lt_of_le (show ps.length < 16777216 by omega) (by rw [sizeLine_eq]; exact Nat.le_refl _)
    · rw [List.length_append, hl]
      rfl
    · intro k z hk
      have pD : p ≠ D := fun z => by rw [z, eD] at np; cases np
      by_cases c : k < ps.length
      · rw [List.getElem?_append_left c] at hk
        obtain ⟨h1, h2⟩ := hR k z hk
        have zD : z ≠ D := fun w => dn (by rw [← w]; exact List.mem_of_getElem? hk)
        exact ⟨m1 _ _ _ _ _ (m2 _ _ _ _ h1 s2) zD, h2⟩
      · have hk2 := (List.getElem?_eq_some_iff.mp hk).1
        rw [List.length_append, List.length_singleton] at hk2
        have ek : k = ps.length := by omega
        subst ek
        rw [List.getElem?_append_right (Nat.le_refl _), Nat.sub_self] at hk
        cases hk
        exact ⟨by rw [hl]; exact m1 _ _ _ _ _ r pD, sm.free np⟩
    · refine List.nodup_append.mpr ⟨nd, List.nodup_cons.mpr ⟨(fun z => by cases z), List.nodup_nil⟩, fun x hx y hy e => ?_⟩
      rw [List.mem_singleton.mp hy] at e
      subst e
      obtain ⟨k, hk⟩ := List.mem_iff_getElem?.mp hx
      exact m3 _ _ _ (hR k _ hk).1 np
    · intro z
      rcases List.mem_append.mp z with z | z
      · exact dn z
      · rw [← List.mem_singleton.mp z, eD] at np
        cases np) fun H' e => by
    obtain ⟨ps, hl, sm, eD, hR, nd, dn⟩ := e
    exact q ps D H' hD sm eD hl hR nd dn
/-- [x for x in a list if ..] -/
theorem lc_lf {K : PySem.W.Frag} {σ : L2.St} {H : Hp} {Q : VK} {tt : TT} {te : TE} {vs : List Nat} {a : Addr} {j : Nat} (xs : List V) (sel : Nat → Bool) (hS : SqL K H a xs) (hz : xs.length ≤ 1000000) (hw : ∀ x, wipe ((wipe σ vs).set j (some x)) vs = wipe σ vs)
    (ht : ∀ (n : Nat) x H' (QB : Bool → Hp → Prop), xs[n]? = some x → Same H H' → QB (sel n) H' → tt ((wipe σ vs).set j (some x)) H' QB)
    (he : ∀ (n : Nat) x H' (Q' : VK), xs[n]? = some x → Same H H' → Q' x H' → te ((wipe σ vs).set j (some x)) H' Q')
    (q : ∀ p ys H', H p = none → Same H H' → H' p = some (.lst ys) → ys.length = (selN sel xs.length).length → Q (.ref p) H') : LcB (Itl K a) (gName j) tt te vs σ Q H := fun D hD =>
  lc_list (xs := xs) (fun i H' => ∃ ys : List V, Same H H' ∧ H' D = some (.lst ys) ∧ ys.length = (selN sel i).length) ⟨[], same_upd hD, upd_same, rfl⟩ (fun i H' _ e => by
    obtain ⟨ys, sm, _⟩ := e
    exact sm.seq hS) (fun i x H' hx e => by
    obtain ⟨ys, sm, eD, hl⟩ := e
    have hi := (List.getElem?_eq_some_iff.mp hx).1
    show wipe ((wipe σ vs).set j (some x)) vs = wipe σ vs ∧ tt ((wipe σ vs).set j (some x)) H' (fun b H3 => if b = true then te ((wipe σ vs).set j (some x)) H3 (fun y H4 => ∃ acc, H4 D = some (.lst acc) ∧ acc.length < sizeLine ∧ ∃ zs : List V, Same H (upd H4 D (.lst (acc ++ [y]))) ∧ (upd H4 D (.lst (acc ++ [y]))) D = some (.lst zs) ∧ zs.length = (selN sel (i + 1)).length) else ∃ zs : List V, Same H H3 ∧ H3 D = some (.lst zs) ∧ zs.length = (selN sel (i + 1)).length)
    refine ⟨hw _, ht i x H' _ hx sm ?_⟩
    have e1 : selN sel (i + 1) = if sel i = true then selN sel i ++ [i] else selN sel i := rfl
    cases hs : sel i with
    | true =>
      rw [hs, if_pos rfl] at e1
      refine w_itT (he i x H' _ hx sm ⟨_, eD, ?_, _, same_mut sm hD, upd_same, ?_⟩)
      · rw [hl]
        have := selN_len sel i
        exact Nat.lt_of_lt_of_le (show (selN sel i).length < 16777216 by omega) (by rw [sizeLine_eq]; exact Nat.le_refl _)
      · rw [e1, List.length_append, List.length_append, hl]
        rfl
    | false =>
      rw [hs, if_neg Bool.false_ne_true] at e1
      exact w_itF ⟨ys, sm, eD, by rw [e1]; exact hl⟩) fun H' e => by
    obtain ⟨ys, sm, eD, hl⟩ := e
    exact q D ys H' hD sm eD hl
end Dpr

namespace Dpr
open PySem PySem.Spec PyProof.Rows L2
/-! a caught error that is kept behind its suite -/
def Exh (cls : Value) (d : Option Addr) (a : Addr) : HO := .ext fun h => ∃ (o : Obj) (fs : Array Value), h.get? a = some o ∧ Zc cls d o ∧ o.data = .fields fs
theorem exh_ok {P : Program} {w : World} {H : Hp} {h : Heap} {a : Addr} {cls : Value} {d : Option Addr} {o : Obj} {fs : Array Value} (g : h.get? a = some o) (z : Zc cls d o) (f : o.data = .fields fs) : ObjOk P w H h a (Exh cls d a) :=
  ⟨⟨o, fs, g, z, f⟩, ⟨o, g⟩, fun _ _ ⟨o', f', g', z'⟩ k => ⟨o', f', k o' g', z'⟩⟩
section
variable {X : Cx} {pins : List (Addr × Obj)} {σ : L2.St} {H : Hp} {s : Shared}
/-- an object that stands, new since the def's begin, is tracked -/
theorem inv_track {a : Addr} {φ : Heap → Prop} (I : Inv X pins σ H s) (n0 : X.s_0.heap.get? a = none) (na : H a = none) (nl : a ≠ X.env.locals) (nc : ∀ x c, X.env.cells.lookup x = some c → c ≠ a) (np : ∀ p ∈ X.pn ++ pins, p.1 ≠ a)
    (ob : ObjOk X.prog X.w (upd H a (.ext φ)) s.heap a (.ext φ)) : Inv X pins σ (upd H a (.ext φ)) s := by
  have old : ∀ {b : Addr} {u : HO}, H b = some u → upd H a (.ext φ) b = some u := fun {b u} e => by rw [upd_ne (ne_of_none e na)]; exact e
  have new0 : ∀ {b : Addr} {u : Obj}, X.s_0.heap.get? b = some u → b ≠ a := fun {b u} e z => by rw [z, n0] at e; cases e
  have gone : ∀ {b : Addr}, b ≠ a → H b = none → upd H a (.ext φ) b = none := fun {b} ne e => by rw [upd_ne ne]; exact e
  refine ⟨I.ok, I.os, I.bare, ⟨I.base.keep, I.base.slot, fun b u e n hx => gone (new0 e) (I.base.free b u e n hx), I.base.there, fun b xs e => old (I.base.tups b xs e), fun b u v e => old (I.base.frzs b u v e), fun b ps e => ?_⟩, I.loc, I.cell, gone nl.symm I.free, fun x c e => gone (nc x c e) (I.freeC x c e), fun p hp => ?_, fun b u e => ?_, I.len⟩
  · obtain ⟨m, q⟩ := I.base.tbls b ps e
    exact ⟨m, old q⟩
  · have q := I.pin p hp
    exact ⟨q.1, gone (np p hp) q.2.1, q.2.2⟩
  · by_cases c : b = a
    · subst c
      rw [upd_same] at e
      cases e
      exact ob
    · rw [upd_ne c] at e
      exact (I.hok b u e).stay (fun _ _ _ q => q) (fun _ q => old q) fun _ _ q => old q
end
/-- the clauses: the class asked, the suite's reading -/
abbrev Clss := List (Value × (Addr → Value → Option Addr → TS))
def keepE (D : Ends) (i : Nat) (a : Addr) (cls : Value) (d : Option Addr) : Ends where
  nx := fun σ H => H a = none → D.nx (σ.set i none) (upd H a (Exh cls d a))
  rt := D.rt
  bk := fun σ H => D.bk (σ.set i none) H
  ct := fun σ H => D.ct (σ.set i none) H
def wNamed (K : PySem.W.Frag) (Wout : WX) (D : Ends) (i : Nat) : Clss → WX
  | [] => Wout
  | q :: r => fun cls d σ H => ∃ b : Bool, PySem.W.exmOne K cls q.1 = some b ∧ (b = true → ∀ a : Addr, H a = none → q.2 a cls d (keepE D i a cls d) (σ.set i (some (.ref a))) H) ∧ (b = false → wNamed K Wout D i r cls d σ H)
inductive Clauses (X : Cx) (n : Str) : List ExceptHandler → Clss → Prop
  | nil : Clauses X n [] []
  | cons {x : Str} {c : Value} {ts : Addr → Value → Option Addr → TS} {b₀ : Stmt} {rest : List Stmt} {p1 p2 : Pos} {more : List ExceptHandler} {l : Clss} (hx : Names X x c)
      (run : ∀ (a : Addr) (o : Obj) (cls : Value) (d : Option Addr) (pn : List (Addr × Obj)), Zc cls d o → (∃ fs, o.data = .fields fs) → PSs (X.suite a ((a, o) :: pn)) (b₀ :: rest) (ts a cls d)) (tl : Clauses X n more l) :
      Clauses X n (.ExceptHandler (some (.Name x p1)) (some n) (b₀ :: rest) p2 :: more) ((c, ts) :: l)
section
variable {X : Cx} {n : Str} {i : Nat} {body : List Stmt} {h0 : ExceptHandler} {more : List ExceptHandler} {l : Clss} {pos : Pos} {tb : WX → TS} {Wout : WX}
theorem ps_try_named (st : X.stack = X.env :: X.outer) (fr : X.env.frame = some X.env.locals) (noex : X.ex = []) (nodup : X.N.Nodup) (at_i : X.N[i]? = some n) (loc : X.env.kindOf n = some .local) (tk : Takes X Wout)
    (run : ∀ (W : WX) (pn : List (Addr × Obj)) (xe : Value → Shared → Prop), Takes (X.tr pn xe) W → PassesOwn (model X.prog X.w) X.A X.env xe → PSs (X.tr pn xe) body (tb W))
    (hh : Clauses X n (h0 :: more) l) : PS X (.Try body (h0 :: more) [] [] pos) (fun D σ H => tb (wNamed X.K Wout D i l) D σ H) := by
  refine ⟨fun pins s σ H D I0 read => ?_⟩
  have okX := I0.ok
  have frs2 : X.A.frames = some (X.env :: X.outer) := okX.frames.trans (by rw [st])
  apply wpAny_Try_except
  refine wpAny_mono ((run (wNamed X.K Wout D i l) (X.pn ++ pins) (fun e t1 => wpAny (model X.prog X.w) X.A (noteFrame e X.env)
      (fun _ t2 => wpAny (model X.prog X.w) X.A (setFlight e none)
        (fun _ t3 => wpAny (model X.prog X.w) X.A (handleBy e X.env (h0 :: more)) (SP X pins D) X.xe t3) X.xe t2) X.xe t1)
      (fun u t caught => ?caught) PassesOwn.looking).run [] s σ H D (I0.toTry _) read) (fun f t through => ?through) (fun _ _ q => q)
  case through =>
    cases f <;> first
      | (obtain ⟨σ1, H1, I1, q1⟩ := through; exact wpAny_execs_nil ⟨σ1, H1, I1.ofTry okX, q1⟩)
      | (obtain ⟨σ1, H1, I1, q1⟩ := through; exact ⟨σ1, H1, I1.ofTry okX, q1⟩)
      | (obtain ⟨v1, σ1, H1, I1, r1, q1⟩ := through; exact ⟨v1, σ1, H1, I1.ofTry okX, r1, q1⟩)
  case caught =>
    obtain ⟨a, B, t0, pins1, σ1, H1, cls, d, rfl, I1', ground, up1, sky1, na, os1, bare1, wish⟩ := caught
    have I1 : Inv X pins σ1 H1 t0 := I1'.ofTry okX
    have sky2 : Sky B (X.env :: X.outer) a (Zc cls d) X.env.locals t.heap := st ▸ sky1
    show wpAny (model X.prog X.w) X.A (noteFrame (.ref a) X.env) _ _ _
    refine Sky.land Zc.steady frs2 fr sky2 fun g3 fly3 up3 => ?_
    have I3 : Inv X pins σ1 H1 { t with heap := g3 } := I1.landed ground fly3.1 (up1.trans up3) os1 bare1
    obtain ⟨o3, fs3, get3, z3, dat3⟩ := fly3.there
    have noFrame : a ∉ frs (X.env :: X.outer) := fun m => by
      obtain ⟨_, o', g', nf⟩ := fly3.2.2.1.mem m
      cases get3.symm.trans g'
      exact nf _ dat3
    have nl : a ≠ X.env.locals := fun z => noFrame (List.mem_filterMap.mpr ⟨X.env, List.mem_cons_self, fr.trans (congrArg some z.symm)⟩)
    have nfs : a ∉ X.fs := fun m => by
      obtain ⟨e1, m1, q1⟩ := List.mem_filterMap.mp m
      exact noFrame (List.mem_filterMap.mpr ⟨e1, List.mem_cons_of_mem _ m1, q1⟩)
    have inGround : ∀ b o, t0.heap.get? b = some o → b ∉ frs (X.env :: X.outer) → b ≠ a := fun b o e nb z => by
      have := ground b o e (by rw [show (X.tr (X.pn ++ pins) _).stack = X.env :: X.outer from st]; exact nb)
      rw [z, fly3.2.1] at this
      cases this
    have begin0 : X.s_0.heap.get? a = none := by
      cases e : X.s_0.heap.get? a with
      | none => rfl
      | some o =>
        obtain ⟨o', e'⟩ := I1.base.there a o e (by rw [noex]; exact List.not_mem_nil)
        exact absurd rfl (inGround a o' e' noFrame)
    have apart : ∀ p ∈ X.pn ++ pins, p.1 ≠ a := fun p hp => by
      have q := I1.pin p hp
      refine inGround p.1 p.2 q.1 fun m => ?_
      obtain ⟨e1, m1, q1⟩ := List.mem_filterMap.mp m
      rcases List.mem_cons.mp m1 with z | z
      · rw [z, fr] at q1
        exact q.2.2.1 (Option.some.inj q1).symm
      · exact q.2.2.2.1 (List.mem_filterMap.mpr ⟨e1, z, q1⟩)
    have S3 := I3.suite get3 dat3 na nl nfs
    have turn : ∀ {hs' : List ExceptHandler} {l' : Clss}, Clauses X n hs' l' → wNamed X.K Wout D i l' cls d σ1 H1 → wpAny (model X.prog X.w) X.A (handleBy (.ref a) X.env hs') (SP X pins D) X.xe { t with heap := g3 } := by
      intro hs' l' hc
      induction hc with
      | nil =>
        intro w1
        apply wpAny_handleBy_nil
        obtain ⟨_, _, _, o1, fs1, T1, _, _, g1, z1, d1, f1, _⟩ := id fly3
        unfold PySem.passOn
        refine wpAny_bind (wpAny_field g1 d1 f1 ?_)
        rw [if_neg (show ¬ ((Value.ref T1 == Value.none) = true) by simp)]
        have on : wpAny (model X.prog X.w) X.A (setFlight (.ref a) X.env.frame) (fun _ t4 => wpAny (model X.prog X.w) X.A (throw (.ref a) : Sem Flow) (SP X pins D) X.xe t4) X.xe { t with heap := g3 } := by
          rw [fr]
          exact HandSPX.setFlight_upZ fly3 fun g4 held up4 => wpAny_throw (tk _ _ ⟨a, B, t0, pins, σ1, H1, cls, d, rfl, I1, ground, (up1.trans up3).trans up4, .inr (.inr (by rw [st]; exact held)), na, os1, bare1, w1⟩)
        first
          | exact wpAny_bind on
          | exact wpAny_bind (wpAny_pure (wpAny_bind on))
      | @cons x c ts b₀ rest p1 p2 more2 l2 hx runS tl ih =>
        intro w1
        obtain ⟨b, asked, yes, no⟩ := w1
        refine wpAny_handleBy_cons (codeAny_handlers_test ?_) (by intro z; cases z)
        have cl3 : PySem.W.Looks (model X.prog X.w) g3 (typeOf (.ref a)) cls := fun _ _ _ _ k q => wpAny_typeOf_ref (k _ _ get3) (by rw [z3.1]; exact q)
        have tells := PySem.W.exm_one (M := model X.prog X.w) I3.kIn cl3 asked
        have named : ∀ {R : Value → Shared → Prop} {E : Value → Shared → Prop}, R c { t with heap := g3 } → wpAny (model X.prog X.w) (X.A.mark (some (.ref a))) (eval (.Name x p1) X.env) R E { t with heap := g3 } := fun {R E} q => by
          obtain ⟨hg, hdb, known | ⟨hm, hv, hnn⟩⟩ := hx
          · exact ld_glob (X := X.suite a ((a, o3) :: (X.pn ++ pins))) S3 hg known q hdb
          · exact ld_blt (X := X.suite a ((a, o3) :: (X.pn ++ pins))) S3 hg hm hv q hnn hdb
        refine named (tells.here ?_)
        cases b with
        | false =>
          show wpAny _ X.A (handleBy (.ref a) X.env more2) _ _ _
          exact ih (no rfl)
        | true =>
          apply codeAny_handlers_suite_as
          refine HandSPX.lands_againZ fly3 fun g4 fly4 up4 => ?_
          have I4 : Inv X pins σ1 H1 { t with heap := g4 } := I1.landed ground fly4.1 ((up1.trans up3).trans up4) os1 bare1
          obtain ⟨o4, fs4, get4, z4, dat4⟩ := fly4.there
          refine store_ok (X := X.suite a ((a, o4) :: (X.pn ++ pins))) (v := .ref a) (I4.suite get4 dat4 na nl nfs) nodup at_i (.inl loc) rfl (fun t5 S5 => ?_) (.inr loc)
          refine wpAny_mono ((runS a o4 cls d (X.pn ++ pins) z4 ⟨_, dat4⟩).run [] t5 _ H1 _ S5 (yes rfl a na)) (fun f t6 done => ?_) (fun _ _ z => z.elim)
          have behind : ∀ {σ6 : L2.St} {H6 : Hp} {R : Shared → Prop}, Inv X pins σ6 H6 t6 → (∀ t7, Inv X pins (σ6.set i none) H6 t7 → R t7) → wpAny (model X.prog X.w) X.A (do bindName X.env n .none; unbindBehindTheSuite X.env n p2) (fun _ t7 => R t7) X.xe t6 := fun {σ6 H6 R} J6 k => gone_ok J6 nodup at_i loc k
          cases f with
          | next =>
            obtain ⟨σ6, H6, S6, q6⟩ := done
            have pin6 := S6.pin (a, o4) (List.mem_append_left _ List.mem_cons_self)
            have J6 := inv_track (S6.unsuite okX) begin0 pin6.2.1 nl (fun x c e z => by
              obtain ⟨v, o, ho, hd⟩ := S6.cell x c e
              rw [z, pin6.1] at ho
              cases ho
              exact pin6.2.2.2.2 _ hd) apart (exh_ok pin6.1 z4 dat4)
            exact behind J6 fun t7 J7 => ⟨_, _, J7, q6 pin6.2.1⟩
          | brk =>
            obtain ⟨σ6, H6, S6, q6⟩ := done
            exact behind (S6.unsuite okX) fun t7 J7 => ⟨_, _, J7, q6⟩
          | cont =>
            obtain ⟨σ6, H6, S6, q6⟩ := done
            exact behind (S6.unsuite okX) fun t7 J7 => ⟨_, _, J7, q6⟩
          | ret u =>
            obtain ⟨v6, σ6, H6, S6, r6, q6⟩ := done
            exact behind (S6.unsuite okX) fun t7 J7 => ⟨_, _, _, J7, r6, q6⟩
    exact turn hh wish
end
/-! isinstance of such a one -/
def rIsx (K : PySem.W.Frag) : List V → Hp → VK → Prop := fun xs H Q => ∃ (a D : Addr) (c : V) (u : Value) (b : Bool), xs = [.ref a, c] ∧ H a = some (Exh (.ref D) none a) ∧ ExcC K D ∧ ClsV c u ∧ PySem.W.kitOne K (.ref D) u = some b ∧ Q (.bl b) H
def rIsxT (K : PySem.W.Frag) : List V → Hp → VK → Prop := fun xs H Q => ∃ (a D tp : Addr) (cs : List V) (us : List Value) (b : Bool), xs = [.ref a, .ref tp] ∧ H a = some (Exh (.ref D) none a) ∧ ExcC K D ∧ H tp = some (.tup cs) ∧ Paired ClsV cs us ∧ PySem.W.kitAny K (.ref D) us = some b ∧ Q (.bl b) H
theorem exh_inst {X : Cx} {pins : List (Addr × Obj)} {σ : L2.St} {H : Hp} {s : Shared} {a D : Addr} (I : Inv X pins σ H s) (e : H a = some (Exh (.ref D) none a)) : ∃ o, PySem.W.InstAt s.heap a o D none := by
  obtain ⟨⟨o, fs, g, ⟨z1, z2⟩, f⟩, _⟩ := I.hok a _ e
  refine ⟨o, ?_⟩
  obtain ⟨oc, od, oda, osl⟩ := o
  dsimp only at z1 z2 f
  subst z1 z2 f
  exact ⟨g, rfl, rfl, trivial⟩
theorem c_isx {X : Cx} (K : PySem.W.Frag) (eK : X.K = K := by rfl) : CallR X (.builtin "isinstance") (rIsx K) := by
  subst eK
  intro pins s σ H xs us Q I r q
  obtain ⟨a, D, c, u, b, rfl, e, C, hc, k, q⟩ := q
  obtain ⟨u1, u2, rfl, r1, r2⟩ := vals2 r
  cases (show u1 = Value.ref a from r1)
  obtain rfl := hc.eq r2
  obtain ⟨o, J⟩ := exh_inst I e
  exact PySem.W.kia_one (PySem.W.handS_kitx_exc C.hg C.hk C.hs C.hd C.ha C.hn C.ht C.hm) I.kIn J k (fun z => nomatch z) fun tk => ⟨.bl b, H, I.tok tk, rfl, q⟩
theorem c_isxT {X : Cx} (K : PySem.W.Frag) (eK : X.K = K := by rfl) : CallR X (.builtin "isinstance") (rIsxT K) := by
  subst eK
  intro pins s σ H xs us Q I r q
  obtain ⟨a, D, tp, cs, ws, b, rfl, e, C, hT, hc, k, q⟩ := q
  obtain ⟨u1, u2, rfl, r1, r2⟩ := vals2 r
  cases (show u1 = Value.ref a from r1)
  cases (show u2 = Value.ref tp from r2)
  obtain ⟨o, J⟩ := exh_inst I e
  obtain ⟨_, its, rv, oT, g1, g2, m, g3⟩ := (show ObjOk X.prog X.w H s.heap tp (.tup cs) from I.hok tp _ hT)
  obtain rfl := ClsV.all hc rv
  obtain ⟨oc, od, dt, sl⟩ := oT
  dsimp only at g2 g3
  subst g2 g3
  exact PySem.W.kia_tup (PySem.W.handS_kitx_exc C.hg C.hk C.hs C.hd C.ha C.hn C.ht C.hm) I.kIn J g1 k (fun z => nomatch z) fun tk => ⟨.bl b, H, I.tok tk, rfl, q⟩
/-! o.m(e, ..) within a try -/
def tMethS (C : Addr) (m : Str) (sp : Sp) (E : L2.St → XK) (ta : TE) (t : TA) : TE := fun σ H Q => ta σ H fun x H1 => ∃ (a dx : Addr) (fs : List (Str × V)), x = .ref a ∧ H1 a = some (.ins C dx fs) ∧ fs.lookup m = none ∧ t σ H1 fun vs H2 => sp (x :: vs) H2 Q (E σ)
section
variable {X : Cx} {CX : CXT} {k : Nat} {f C : Addr} {fd : FuncData} {ps : List Str} {sp : Sp} {E : L2.St → XK} {m : Str} {pos apos : Pos} {e o : Expr} {es : List Expr} {ta : TE} {t : TA}
theorem pe_methS {pl : Sem Bool} (he : PE X o ta) (c : Cls X.K C) (hm : Meth X.K C m f) (F : FnOk X.prog X.w X.K X.mg X.base CX k f fd ps sp) (hr : Room k X.A) (hb : Binds X.K fd ps []) (hx : ∀ σ, PassesAt CX X σ (E σ)) (ha : PA X (e :: es) t)
    (one : starEach (e :: es) X.env = (false, eval e X.env) :: starEach es X.env := by rfl) (more : (backTo pos (starEach es X.env)).any (·.1) = false := by rfl)
    (tree : eval (.Call (.Attribute o m apos) (e :: es) [] pos) X.env = (do
      let ov ← eval o X.env; standAt apos.atName; let (f, first) ← holding [ov] (getMethod ov m pl)
      callWith pos f first (backTo pos (starEach (e :: es) X.env)) (backToKw pos (keywordEach [] X.env))) := by rfl) : PE X (.Call (.Attribute o m apos) (e :: es) [] pos) (tMethS C m sp E ta t) := by
  refine ⟨fun pins s σ H Q I q0 => ?_⟩
  refine PySem.W.methodCall_KW (pl := pl) (thn (he.run pins s σ H _ I q0) fun u t1 hu => ?_) tree
  obtain ⟨x, H1, I1, rx, a, dx, fs, rfl, ea, nl, q1⟩ := hu
  cases (show u = Value.ref a from rx)
  refine getmeth_ok I1 ea c hm nl (PySem.W.callWith_K (first := [.ref a]) (h₀ := X.base) I.ok.mod.kin hm.kp ?_ one more)
  refine thn (ha.run pos pins t1 σ H1 _ I1 q1) fun us t2 hus => ?_
  obtain ⟨vs, H2, I2, r2, q2⟩ := hus
  exact ⟨I2.kIn, run_fnS (us := .ref a :: us) (vs := .ref a :: vs) F hr hb (hx σ) I2 (.cons rfl r2) q2⟩
end
def MethSB (C : Addr) (m : Str) (sp : Sp) (E : L2.St → XK) (t : TA) (σ : L2.St) (Q : VK) (x : V) (H1 : Hp) : Prop := ∃ (a dx : Addr) (fs : List (Str × V)), x = .ref a ∧ H1 a = some (.ins C dx fs) ∧ fs.lookup m = none ∧ t σ H1 fun vs H2 => sp (x :: vs) H2 Q (E σ)
section
variable {K : PySem.W.Frag} {D : Ends} {σ : L2.St} {H : Hp} {Q : VK} {ta : TE} {t : TA} {C : Addr} {m : Str} {sp : Sp} {E : L2.St → XK} {cls c : Value} {d : Option Addr} {i : Nat} {Wout : WX}
theorem w_methS (h : ta σ H (MethSB C m sp E t σ Q)) : tMethS C m sp E ta t σ H Q := h
theorem w_MethSB {a dx : Addr} {fs : List (Str × V)} (h : H a = some (.ins C dx fs)) (e : fs.lookup m = none) (q : t σ H fun vs H2 => sp (.ref a :: vs) H2 Q (E σ)) : MethSB C m sp E t σ Q (.ref a) H := ⟨a, dx, fs, rfl, h, e, q⟩
theorem w_callS (h : t σ H fun vs H1 => sp vs H1 Q (E σ)) : tCallS sp E t σ H Q := h
theorem w_hit {ts : Addr → Value → Option Addr → TS} {r : Clss} (k : PySem.W.exmOne K cls c = some true) (h : ∀ a : Addr, H a = none → ts a cls d (keepE D i a cls d) (σ.set i (some (.ref a))) H) : wNamed K Wout D i ((c, ts) :: r) cls d σ H := ⟨true, k, (fun _ => h), (fun z => absurd z.symm Bool.false_ne_true)⟩
theorem w_miss {ts : Addr → Value → Option Addr → TS} {r : Clss} (k : PySem.W.exmOne K cls c = some false) (h : wNamed K Wout D i r cls d σ H) : wNamed K Wout D i ((c, ts) :: r) cls d σ H := ⟨false, k, (fun z => absurd z Bool.false_ne_true), fun _ => h⟩
theorem w_keep {a : Addr} (h : ∀ H', Same H H' → H' a = some (Exh cls d a) → D.nx (σ.set i none) H') : (keepE D i a cls d).nx σ H := fun na => h _ (same_upd na) upd_same
theorem w_isx {a A : Addr} {x : V} {u : Value} {b : Bool} (e : H a = some (Exh (.ref A) none a)) (C : ExcC K A) (hc : ClsV x u) (k : PySem.W.kitOne K (.ref A) u = some b) (q : Q (.bl b) H) : rIsx K [.ref a, x] H Q := ⟨a, A, x, u, b, rfl, e, C, hc, k, q⟩
theorem kit_none {A : Addr} : ∀ {cs : List Addr}, (∀ c ∈ cs, PySem.W.kitOne K (.ref A) (.ref c) = some false) → PySem.W.kitAny K (.ref A) (cs.map Value.ref) = some false
  | [], _ => rfl
  | c :: r, h => kitAny_cons (h c (List.mem_cons_self ..)) (fun _ => kit_none fun x m => h x (List.mem_cons_of_mem _ m)) fun z => by cases z
theorem cls_refs : ∀ cs : List Addr, Paired ClsV (cs.map V.ref) (cs.map Value.ref)
  | [] => .nil
  | c :: r => .cons (.own c) (cls_refs r)
theorem w_isxT0 {a A tp : Addr} {cs : List Addr} (e : H a = some (Exh (.ref A) none a)) (C : ExcC K A) (hT : H tp = some (.tup (cs.map V.ref))) (k : ∀ c ∈ cs, PySem.W.kitOne K (.ref A) (.ref c) = some false) (q : Q (.bl false) H) : rIsxT K [.ref a, .ref tp] H Q :=
  ⟨a, A, tp, _, _, false, rfl, e, C, hT, cls_refs cs, kit_none k, q⟩
end
theorem kit_sub {K : PySem.W.Frag} {A B : Addr} {b : Bool} (hd : PySem.W.hasDictIn K B = true) (ht : PySem.W.typeIn K (.ref B) = some (.type "type")) (self : PySem.W.subIn K (.ref A) (.ref A) = some true) (hs : PySem.W.subIn K (.ref A) (.ref B) = some b) : PySem.W.kitOne K (.ref A) (.ref B) = some b := by
  unfold PySem.W.kitOne
  by_cases e : A = B
  · subst e
    rw [if_pos (beq_self_eq_true _), ← self, hs]
  · have ne : ¬ (Value.ref A == Value.ref B) = true := fun z => e (Value.ref.inj (eq_of_beq z))
    rw [if_neg ne]
    obtain ⟨cd, hc, _⟩ := PySem.W.any_some hd
    have ok : ((PySem.W.clsIn K B).isSome && PySem.W.typeIn K (.ref B) == some (.type "type")) = true := by rw [hc, ht] <;> rfl
    unfold PySem.W.kitCls
    dsimp only
    rw [if_pos ok]
    exact hs
theorem kit_ve {K : PySem.W.Frag} {A : Addr} {b : Bool} (hs : PySem.W.subIn K (.ref A) (.type "ValueError") = some b) : PySem.W.kitOne K (.ref A) (.type "ValueError") = some b := by
  unfold PySem.W.kitOne
  rw [if_neg (by intro z; cases eq_of_beq z)]
  unfold PySem.W.kitCls
  dsimp only
  rw [if_pos (by decide +kernel)]
  exact hs
end Dpr

namespace Dpr
/-! ### bits of numbers, the mathematics -/
def bitsI (n : Int) (m : Nat) : List Int := (List.range m).map fun k => n / 2 ^ k % 2
def valI : List Int → Int
  | [] => 0
  | b :: r => b + 2 * valI r
theorem bitsI_len (n : Int) (m : Nat) : (bitsI n m).length = m := by unfold bitsI; rw [List.length_map, List.length_range]
theorem bitsI_zero (n : Int) : bitsI n 0 = [] := rfl
theorem bitsI_succ (n : Int) (m : Nat) : bitsI n (m + 1) = bitsI n m ++ [n / 2 ^ m % 2] := by
  unfold bitsI
  rw [List.range_succ, List.map_append]
  rfl
theorem bitsI_01 (n : Int) (m : Nat) : ∀ x ∈ bitsI n m, x = 0 ∨ x = 1 := by
  intro x hx
  obtain ⟨k, _, rfl⟩ := List.mem_map.mp hx
  omega
theorem valI_snoc : ∀ (xs : List Int) (b : Int), valI (xs ++ [b]) = valI xs + b * 2 ^ xs.length
  | [], b => by
    show b + 2 * 0 = 0 + b * 2 ^ 0
    rw [Int.pow_zero]
    omega
  | x :: r, b => by
    show x + 2 * valI (r ++ [b]) = x + 2 * valI r + b * 2 ^ (r.length + 1)
    rw [valI_snoc r b, Int.pow_succ, Int.mul_add, Int.mul_comm (2 ^ r.length : Int) 2, ← Int.mul_assoc b 2, Int.mul_comm b 2, Int.mul_assoc 2 b, Int.add_assoc]
theorem mod_step (n : Int) (m : Nat) : n % 2 ^ (m + 1) = n % 2 ^ m + n / 2 ^ m % 2 * 2 ^ m := by
  have hp := p2pos m
  have e1 : n % 2 ^ m + 2 ^ m * (n / 2 ^ m) = n := Int.emod_add_mul_ediv n (2 ^ m)
  have e2 : n % 2 ^ (m + 1) + 2 ^ (m + 1) * (n / 2 ^ (m + 1)) = n := Int.emod_add_mul_ediv n (2 ^ (m + 1))
  have e3 : n / 2 ^ (m + 1) = n / 2 ^ m / 2 := by rw [Int.pow_succ, Int.ediv_ediv_of_nonneg (Int.le_of_lt hp)]
  rw [e3, Int.pow_succ] at e2
  have e4 : n / 2 ^ m % 2 + 2 * (n / 2 ^ m / 2) = n / 2 ^ m := Int.emod_add_mul_ediv _ 2
  rw [Int.mul_assoc] at e2
  have e5 : (2 : Int) ^ m * (n / 2 ^ m % 2 + 2 * (n / 2 ^ m / 2)) = 2 ^ m * (n / 2 ^ m) := by rw [e4]
  rw [Int.mul_add] at e5
  rw [Int.mul_comm (n / 2 ^ m % 2) (2 ^ m), Int.pow_succ]
  omega
theorem valI_bitsI (n : Int) : ∀ m : Nat, valI (bitsI n m) = n % 2 ^ m
  | 0 => by
    show (0 : Int) = n % 2 ^ 0
    rw [Int.pow_zero]
    omega
  | m + 1 => by rw [bitsI_succ, valI_snoc, valI_bitsI n m, bitsI_len, mod_step]
theorem bit_shift (x c : Int) {k m : Nat} (h : k < m) : (x + c * 2 ^ m) / 2 ^ k % 2 = x / 2 ^ k % 2 := by
  obtain ⟨d, rfl⟩ : ∃ d, m = k + 1 + d := ⟨m - k - 1, by omega⟩
  have e : x + c * 2 ^ (k + 1 + d) = x + (c * 2 ^ d * 2) * 2 ^ k := by
    rw [Int.pow_add, Int.pow_succ]
    congr 1
    simp only [Int.mul_assoc, Int.mul_comm, Int.mul_left_comm]
  rw [e, Int.add_mul_ediv_right _ _ (Int.ne_of_gt (p2pos k))]
  omega
theorem bitsI_shift (x c : Int) (m : Nat) : bitsI (x + c * 2 ^ m) m = bitsI x m := by
  unfold bitsI
  exact List.map_congr_left fun k hk => bit_shift x c (List.mem_range.mp hk)
theorem bitsI_mod (n : Int) (m : Nat) : bitsI (n % 2 ^ m) m = bitsI n m := by
  have e := Int.emod_add_mul_ediv n (2 ^ m)
  have q := bitsI_shift (n % 2 ^ m) (n / 2 ^ m) m
  rw [Int.mul_comm (n / 2 ^ m) (2 ^ m), e] at q
  exact q.symm
/-- bits read: as they are, or below nought -/
def numI (bs : List Int) (below : Bool) : Int := if below = true ∧ bs ≠ [] then valI bs - bs.getLastD 0 * 2 ^ bs.length else valI bs
theorem bits_numI (n : Int) (m : Nat) (b : Bool) : bitsI (numI (bitsI n m) b) m = bitsI n m := by
  unfold numI
  rw [valI_bitsI, bitsI_len]
  split
  · rename_i h
    have e : n % 2 ^ m - (bitsI n m).getLastD 0 * 2 ^ m = n % 2 ^ m + (-(bitsI n m).getLastD 0) * 2 ^ m := by rw [Int.neg_mul]; rfl
    rw [e, bitsI_shift, bitsI_mod]
  · exact bitsI_mod n m
theorem numI_mod (n : Int) (m : Nat) : (numI (bitsI n m) false - n) % 2 ^ m = 0 := by
  unfold numI
  rw [if_neg (by simp), valI_bitsI]
  have e := Int.emod_add_mul_ediv n (2 ^ m)
  have e2 : n % 2 ^ m - n = -(n / 2 ^ m) * 2 ^ m := by
    rw [Int.neg_mul, Int.mul_comm]
    omega
  rw [e2]
  exact Int.mul_emod_left _ _
end Dpr

namespace Dpr
open PySem PySem.Spec PyProof.Rows L2
/-! formulas -/
inductive Fm where
  | name (n : Str) | num (n : Int) | plus (f g : Fm) | less (f g : Fm) | times (f g : Fm) | turned (f : Fm)
def FmAt (H : Hp) : Addr → Fm → Prop
  | p, .name n => H p = some (.tup [.str "name", .str n])
  | p, .num n => H p = some (.tup [.str "number", .int n])
  | p, .plus f g => ∃ a b, H p = some (.tup [.str "plus", .ref a, .ref b]) ∧ FmAt H a f ∧ FmAt H b g
  | p, .less f g => ∃ a b, H p = some (.tup [.str "less", .ref a, .ref b]) ∧ FmAt H a f ∧ FmAt H b g
  | p, .times f g => ∃ a b, H p = some (.tup [.str "times", .ref a, .ref b]) ∧ FmAt H a f ∧ FmAt H b g
  | p, .turned f => ∃ a, H p = some (.tup [.str "turned", .ref a]) ∧ FmAt H a f
theorem FmAt.keep {H H' : Hp} (s : ∀ p xs, H p = some (.tup xs) → H' p = some (.tup xs)) : ∀ {f : Fm} {p : Addr}, FmAt H p f → FmAt H' p f
  | .name _, _, h => s _ _ h
  | .num _, _, h => s _ _ h
  | .plus _ _, _, ⟨a, b, h1, h2, h3⟩ => ⟨a, b, s _ _ h1, h2.keep s, h3.keep s⟩
  | .less _ _, _, ⟨a, b, h1, h2, h3⟩ => ⟨a, b, s _ _ h1, h2.keep s, h3.keep s⟩
  | .times _ _, _, ⟨a, b, h1, h2, h3⟩ => ⟨a, b, s _ _ h1, h2.keep s, h3.keep s⟩
  | .turned _, _, ⟨a, h1, h2⟩ => ⟨a, s _ _ h1, h2.keep s⟩
theorem FmAt.same {H H' : Hp} {p : Addr} {f : Fm} (s : Same H H') (h : FmAt H p f) : FmAt H' p f := h.keep fun _ _ e => s _ _ e
theorem FmAt.trk {H : Hp} {p : Addr} {f : Fm} (h : FmAt H p f) : ∃ xs, H p = some (.tup xs) := by
  cases f with
  | name n => exact ⟨_, h⟩
  | num n => exact ⟨_, h⟩
  | plus f g => obtain ⟨a, b, h1, _⟩ := h; exact ⟨_, h1⟩
  | less f g => obtain ⟨a, b, h1, _⟩ := h; exact ⟨_, h1⟩
  | times f g => obtain ⟨a, b, h1, _⟩ := h; exact ⟨_, h1⟩
  | turned f => obtain ⟨a, h1, _⟩ := h; exact ⟨_, h1⟩
def headF : Fm → Str
  | .name _ => "name"
  | .num _ => "number"
  | .plus _ _ => "plus"
  | .less _ _ => "less"
  | .times _ _ => "times"
  | .turned _ => "turned"
theorem FmAt.head {H : Hp} {p : Addr} {f : Fm} (h : FmAt H p f) : ∃ xs, H p = some (.tup (.str (headF f) :: xs)) := by
  cases f with
  | name n => exact ⟨_, h⟩
  | num n => exact ⟨_, h⟩
  | plus f g => obtain ⟨a, b, h1, _⟩ := h; exact ⟨_, h1⟩
  | less f g => obtain ⟨a, b, h1, _⟩ := h; exact ⟨_, h1⟩
  | times f g => obtain ⟨a, b, h1, _⟩ := h; exact ⟨_, h1⟩
  | turned f => obtain ⟨a, h1, _⟩ := h; exact ⟨_, h1⟩
theorem headF_name {f : Fm} (h : headF f = "name") : ∃ n, f = .name n := by
  cases f with
  | name n => exact ⟨n, rfl⟩
  | num n => exact absurd (show Str.ofString "number" = Str.ofString "name" from h) (by decide +kernel)
  | plus f g => exact absurd (show Str.ofString "plus" = Str.ofString "name" from h) (by decide +kernel)
  | less f g => exact absurd (show Str.ofString "less" = Str.ofString "name" from h) (by decide +kernel)
  | times f g => exact absurd (show Str.ofString "times" = Str.ofString "name" from h) (by decide +kernel)
  | turned f => exact absurd (show Str.ofString "turned" = Str.ofString "name" from h) (by decide +kernel)
theorem headF_num {f : Fm} (h : headF f = "number") : ∃ n, f = .num n := by
  cases f with
  | name n => exact absurd (show Str.ofString "name" = Str.ofString "number" from h) (by decide +kernel)
  | num n => exact ⟨n, rfl⟩
  | plus f g => exact absurd (show Str.ofString "plus" = Str.ofString "number" from h) (by decide +kernel)
  | less f g => exact absurd (show Str.ofString "less" = Str.ofString "number" from h) (by decide +kernel)
  | times f g => exact absurd (show Str.ofString "times" = Str.ofString "number" from h) (by decide +kernel)
  | turned f => exact absurd (show Str.ofString "turned" = Str.ofString "number" from h) (by decide +kernel)
theorem at_0 {x : V} {r : List V} : atI (x :: r) 0 = some x := atI_nat (j := 0) rfl
def Fm.size : Fm → Nat
  | .name _ => 1
  | .num _ => 1
  | .plus f g => f.size + g.size + 1
  | .less f g => f.size + g.size + 1
  | .times f g => f.size + g.size + 1
  | .turned f => f.size + 1
theorem Fm.size_pos : ∀ f : Fm, 1 ≤ f.size
  | .name _ => Nat.le_refl _
  | .num _ => Nat.le_refl _
  | .plus _ _ => by unfold Fm.size; omega
  | .less _ _ => by unfold Fm.size; omega
  | .times _ _ => by unfold Fm.size; omega
  | .turned _ => by unfold Fm.size; omega
/-- its names are some names, its numbers from 0 to 10 ** 12 -/
def FmOk (N : Str → Prop) : Fm → Prop
  | .name n => N n
  | .num n => 0 ≤ n ∧ n ≤ 1000000000000
  | .plus f g => FmOk N f ∧ FmOk N g
  | .less f g => FmOk N f ∧ FmOk N g
  | .times f g => FmOk N f ∧ FmOk N g
  | .turned f => FmOk N f
theorem FmOk.mono {N M : Str → Prop} (h : ∀ n, N n → M n) : ∀ {f : Fm}, FmOk N f → FmOk M f
  | .name _, k => h _ k
  | .num _, k => k
  | .plus _ _, k => ⟨k.1.mono h, k.2.mono h⟩
  | .less _ _, k => ⟨k.1.mono h, k.2.mono h⟩
  | .times _ _, k => ⟨k.1.mono h, k.2.mono h⟩
  | .turned f, k => FmOk.mono (f := f) h (show FmOk N f from k)
def worthF (ws : List (Str × Int)) : Fm → Int
  | .name n => (lookW ws n).getD 0
  | .num n => n
  | .plus f g => worthF ws f + worthF ws g
  | .less f g => worthF ws f - worthF ws g
  | .times f g => worthF ws f * worthF ws g
  | .turned f => -worthF ws f
def WsSmall (ws : List (Str × Int)) : Prop := ∀ n v, lookW ws n = some v → v.natAbs < 2 ^ 250
theorem pow_le_of {a b : Nat} (h : a ≤ b) : 2 ^ a ≤ 2 ^ b := Nat.pow_le_pow_right (by decide) h
theorem worth_abs {N : Str → Prop} {ws : List (Str × Int)} (hw : WsSmall ws) : ∀ {f : Fm}, FmOk N f → (worthF ws f).natAbs < 2 ^ (301 * f.size)
  | .name n, _ => by
    have p : 2 ^ 250 ≤ 2 ^ (301 * Fm.size (.name n)) := pow_le_of (by show 250 ≤ 301 * 1; decide)
    show ((lookW ws n).getD 0).natAbs < _
    cases e : lookW ws n with
    | none => exact Nat.pow_pos (by decide)
    | some v => exact Nat.lt_of_lt_of_le (hw n v e) p
  | .num n, h => by
    have p : 2 ^ 41 ≤ 2 ^ (301 * Fm.size (.num n)) := pow_le_of (by show 41 ≤ 301 * 1; decide)
    have e : 2 ^ 41 = 2199023255552 := by decide
    have h1 := h.1
    have h2 := h.2
    show n.natAbs < _
    omega
  | .plus f g, h => by
    have a := worth_abs hw h.1
    have b := worth_abs hw h.2
    have p1 : 2 ^ (301 * f.size) * 2 ≤ 2 ^ (301 * Fm.size (.plus f g)) := by rw [← Nat.pow_succ]; exact pow_le_of (by show 301 * f.size + 1 ≤ 301 * (f.size + g.size + 1); omega)
    have p2 : 2 ^ (301 * g.size) * 2 ≤ 2 ^ (301 * Fm.size (.plus f g)) := by rw [← Nat.pow_succ]; exact pow_le_of (by show 301 * g.size + 1 ≤ 301 * (f.size + g.size + 1); omega)
    show (worthF ws f + worthF ws g).natAbs < _
    omega
  | .less f g, h => by
    have a := worth_abs hw h.1
    have b := worth_abs hw h.2
    have p1 : 2 ^ (301 * f.size) * 2 ≤ 2 ^ (301 * Fm.size (.less f g)) := by rw [← Nat.pow_succ]; exact pow_le_of (by show 301 * f.size + 1 ≤ 301 * (f.size + g.size + 1); omega)
    have p2 : 2 ^ (301 * g.size) * 2 ≤ 2 ^ (301 * Fm.size (.less f g)) := by rw [← Nat.pow_succ]; exact pow_le_of (by show 301 * g.size + 1 ≤ 301 * (f.size + g.size + 1); omega)
    show (worthF ws f - worthF ws g).natAbs < _
    omega
  | .times f g, h => by
    have a := worth_abs hw h.1
    have b := worth_abs hw h.2
    have p1 : 2 ^ (301 * f.size) * 2 ^ (301 * g.size) ≤ 2 ^ (301 * Fm.size (.times f g)) := by rw [← Nat.pow_add]; exact pow_le_of (by show 301 * f.size + 301 * g.size ≤ 301 * (f.size + g.size + 1); omega)
    show (worthF ws f * worthF ws g).natAbs < _
    rw [Int.natAbs_mul]
    refine Nat.lt_of_lt_of_le ?_ p1
    exact Nat.mul_lt_mul'' a b
  | .turned f, h => by
    have a := worth_abs hw (f := f) h
    have p1 : 2 ^ (301 * f.size) ≤ 2 ^ (301 * Fm.size (.turned f)) := pow_le_of (by show 301 * f.size ≤ 301 * (f.size + 1); omega)
    show (-worthF ws f).natAbs < _
    omega
theorem mul_abs {i j : Int} {n m : Nat} (hi : i.natAbs < 2 ^ n) (hj : j.natAbs < 2 ^ m) (h : n + m ≤ 1000000) : IntMulOk i j :=
  CMulX.ok (show (Builtin.Int.intBits i : Int) + (Builtin.Int.intBits j : Int) ≤ 134217728 by have := bits_of_int hi; have := bits_of_int hj; omega)
/-! a copy of a dict -/
def rCopyD : V → List V → Hp → VK → Prop := fun x xs H Q => ∃ (a : Addr) (kvs : List (Key × V)), x = .ref a ∧ xs = [] ∧ H a = some (.dK kvs) ∧ ∀ p, H p = none → Q (.ref p) (upd H p (.dK kvs))
theorem mt_copyD {X : Cx} : MtR X "dict.copy" rCopyD := by
  intro pins s σ H x xs v us Q I rx rxs h
  obtain ⟨a, kvs, rfl, rfl, e, q⟩ := h
  cases rx
  cases rxs
  obtain ⟨z, hd, vs, rel, dd⟩ := dk_of I.hok e
  refine call_meetsIn PySem.F.slot_dict_copy dd.typeIs PySem.F.entry_dict_copy (PySem.F.args_dict_copy_1 _) (meets_dict_copy (mixKind X.prog X.w) a hd) ⟨vs, dd, by rw [← rel.length]; exact z, fun h' d' _ hs => ?_⟩
  have hm : (s.heap.objs.size == sysModules) = false := beq_eq_false_iff_ne.mpr (Nat.ne_of_gt I.big)
  exact ⟨.ref s.heap.objs.size, upd H s.heap.objs.size (.dK kvs), I.laid (t' := s.toks) (fun b u e => hs b u e) (Nat.le_refl _)
    (show ObjOk X.prog X.w _ _ _ (.dK kvs) from ⟨z, hm, vs, rel, d'⟩), rfl, q _ (I.hok.fresh (Nat.le_refl _))⟩
theorem w_copyD {H : Hp} {Q : VK} {a : Addr} {kvs : List (Key × V)} (h : H a = some (.dK kvs)) (q : ∀ p H', H p = none → Same H H' → H' p = some (.dK kvs) → Q (.ref p) H') : rCopyD (.ref a) [] H Q :=
  ⟨a, kvs, rfl, rfl, h, fun p hp => q p _ hp (same_upd hp) upd_same⟩
theorem w_BM0D {K : PySem.W.Frag} {H : Hp} {Q : VK} {f : V → List V → Hp → VK → Prop} {p : Addr} {kvs : List (Key × V)} (e : H p = some (.dK kvs)) (q : f (.ref p) [] H Q) : BM0 K "dict" f Q (.ref p) H := ⟨.inr (.inr (.inl ⟨rfl, .inl ⟨kvs, e⟩⟩)), q⟩
/-! the last of a list taken off -/
theorem w_pop {H : Hp} {Q : VK} {p : Addr} {xs : List V} {y : V} (e : H p = some (.lst (xs ++ [y]))) (q : Q y (upd H p (.lst xs))) : rPop (.ref p) [] H Q :=
  ⟨p, xs ++ [y], y, rfl, rfl, e, by rw [List.length_append, List.length_singleton, Nat.add_sub_cancel, List.getElem?_append_right (Nat.le_refl _), Nat.sub_self]; rfl, by rw [List.dropLast_concat]; exact q⟩
/-! texts put together -/
def rAddS : R2 := fun x y H Q => ∃ i j : Str, x = .str i ∧ y = .str j ∧ i.length + j.length ≤ sizeLine ∧ Q (.str (i ++ j)) H
theorem op_addS {X : Cx} : OpR X (binaryOp .Add) rAddS := op_add_str
theorem w_addS {H : Hp} {Q : VK} {i j : Str} (h : i.length + j.length ≤ 1000000) (q : Q (.str (i ++ j)) H) : rAddS (.str i) (.str j) H Q := ⟨i, j, rfl, rfl, Nat.le_trans h (by rw [sizeLine_eq]; decide), q⟩
theorem app_cps (x y : Str) : (x ++ y).cps.toList = x.cps.toList ++ y.cps.toList := TL.tl_append x y
theorem len_cps (x : Str) : x.length = x.cps.toList.length := (Array.length_toList).symm
theorem app_len (x y : Str) : (x ++ y).length = x.length + y.length := by rw [len_cps, app_cps, List.length_append, len_cps, len_cps]
end Dpr

namespace Dpr
open PySem PySem.Spec PyProof.Rows L2
/-! between which numbers a formula lies -/
def spanW (w : Int) : Int × Int := if 0 < w then (0, 2 ^ w.toNat - 1) else (-(2 ^ (-w - 1).toNat), 2 ^ (-w - 1).toNat - 1)
def min4 (a b c d : Int) : Int := min (min a b) (min c d)
def max4 (a b c d : Int) : Int := max (max a b) (max c d)
def mulSpan (s t : Int × Int) : Int × Int := (min4 (s.1 * t.1) (s.1 * t.2) (s.2 * t.1) (s.2 * t.2), max4 (s.1 * t.1) (s.1 * t.2) (s.2 * t.1) (s.2 * t.2))
def spanF (ws : List (Str × Int)) : Fm → Int × Int
  | .name n => spanW ((lookW ws n).getD 1)
  | .num n => (n, n)
  | .plus f g => ((spanF ws f).1 + (spanF ws g).1, (spanF ws f).2 + (spanF ws g).2)
  | .less f g => ((spanF ws f).1 - (spanF ws g).2, (spanF ws f).2 - (spanF ws g).1)
  | .times f g => mulSpan (spanF ws f) (spanF ws g)
  | .turned f => (-(spanF ws f).2, -(spanF ws f).1)
/-- widths -/
def WdOk (ws : List (Str × Int)) : Prop := ∀ n v, lookW ws n = some v → v ≠ 0 ∧ -24 ≤ v ∧ v ≤ 24
theorem wd_put {ws : List (Str × Int)} (h : WdOk ws) {n : Str} {v : Int} (hv : v ≠ 0 ∧ -24 ≤ v ∧ v ≤ 24) : WdOk (putW ws n v) := by
  intro m u hu
  rw [look_put] at hu
  split at hu
  · cases hu; exact hv
  · exact h m u hu
theorem wd_get {ws : List (Str × Int)} (h : WdOk ws) (n : Str) : (lookW ws n).getD 1 ≠ 0 ∧ -24 ≤ (lookW ws n).getD 1 ∧ (lookW ws n).getD 1 ≤ 24 := by
  cases e : lookW ws n with
  | none => exact ⟨by decide, by decide, by decide⟩
  | some v => exact h n v e
theorem p2le {k : Nat} (h : k ≤ 24) : 1 ≤ (2 : Int) ^ k ∧ (2 : Int) ^ k ≤ 16777216 := by
  have h1 : (2 : Nat) ^ k ≤ 2 ^ 24 := Nat.pow_le_pow_right (by decide) h
  have h0 : 0 < (2 : Nat) ^ k := Nat.pow_pos (by decide)
  have e : ((2 : Int) ^ k) = ((2 ^ k : Nat) : Int) := by rw [Int.natCast_pow]; rfl
  rw [e]
  have e2 : (2 : Nat) ^ 24 = 16777216 := by decide
  omega
theorem spanW_bd {w : Int} (h : w ≠ 0 ∧ -24 ≤ w ∧ w ≤ 24) : (spanW w).1 ≤ (spanW w).2 ∧ -16777216 ≤ (spanW w).1 ∧ (spanW w).2 ≤ 16777216 ∧ (spanW w).1 ≤ 0 ∧ 0 ≤ (spanW w).2 := by
  unfold spanW
  split
  · have := p2le (k := w.toNat) (by omega)
    exact ⟨by show (0 : Int) ≤ 2 ^ w.toNat - 1; omega, by show (-16777216 : Int) ≤ 0; decide, by show 2 ^ w.toNat - 1 ≤ (16777216 : Int); omega, by show (0 : Int) ≤ 0; decide, by show (0 : Int) ≤ 2 ^ w.toNat - 1; omega⟩
  · have := p2le (k := (-w - 1).toNat) (by omega)
    refine ⟨?_, ?_, ?_, ?_, ?_⟩
    · show -(2 ^ (-w - 1).toNat) ≤ (2 : Int) ^ (-w - 1).toNat - 1; omega
    · show (-16777216 : Int) ≤ -(2 ^ (-w - 1).toNat); omega
    · show (2 : Int) ^ (-w - 1).toNat - 1 ≤ 16777216; omega
    · show -((2 : Int) ^ (-w - 1).toNat) ≤ 0; omega
    · show (0 : Int) ≤ 2 ^ (-w - 1).toNat - 1; omega
theorem mul_le1 {a0 a a1 b : Int} (h0 : a0 ≤ a) (h1 : a ≤ a1) : min (a0 * b) (a1 * b) ≤ a * b ∧ a * b ≤ max (a0 * b) (a1 * b) := by
  rcases Int.le_total 0 b with hb | hb
  · have x := Int.mul_le_mul_of_nonneg_right h0 hb
    have y := Int.mul_le_mul_of_nonneg_right h1 hb
    omega
  · have x := Int.mul_le_mul_of_nonpos_right h0 hb
    have y := Int.mul_le_mul_of_nonpos_right h1 hb
    omega
theorem mul_span {a0 a a1 b0 b b1 : Int} (h0 : a0 ≤ a) (h1 : a ≤ a1) (g0 : b0 ≤ b) (g1 : b ≤ b1) : (mulSpan (a0, a1) (b0, b1)).1 ≤ a * b ∧ a * b ≤ (mulSpan (a0, a1) (b0, b1)).2 := by
  have x := mul_le1 (b := b) h0 h1
  have y := mul_le1 (b := a0) g0 g1
  have z := mul_le1 (b := a1) g0 g1
  rw [Int.mul_comm b0 a0, Int.mul_comm b1 a0, Int.mul_comm b a0] at y
  rw [Int.mul_comm b0 a1, Int.mul_comm b1 a1, Int.mul_comm b a1] at z
  unfold mulSpan min4 max4
  constructor
  · show min (min (a0 * b0) (a0 * b1)) (min (a1 * b0) (a1 * b1)) ≤ a * b
    omega
  · show a * b ≤ max (max (a0 * b0) (a0 * b1)) (max (a1 * b0) (a1 * b1))
    omega
/-- numbers within their widths -/
def Within (wd ws : List (Str × Int)) : Prop := ∀ n w, lookW wd n = some w → ∃ v, lookW ws n = some v ∧ (spanW w).1 ≤ v ∧ v ≤ (spanW w).2
theorem worth_in {N : Str → Prop} {wd ws : List (Str × Int)} (hh : Has N wd) (hw : Within wd ws) : ∀ {f : Fm}, FmOk N f → (spanF wd f).1 ≤ worthF ws f ∧ worthF ws f ≤ (spanF wd f).2
  | .name n, h => by
    obtain ⟨w, e⟩ := hh n h
    obtain ⟨v, e2, a, b⟩ := hw n w e
    show (spanW ((lookW wd n).getD 1)).1 ≤ (lookW ws n).getD 0 ∧ (lookW ws n).getD 0 ≤ (spanW ((lookW wd n).getD 1)).2
    rw [e, e2]
    exact ⟨a, b⟩
  | .num n, _ => ⟨Int.le_refl _, Int.le_refl _⟩
  | .plus f g, h => by
    have a := worth_in hh hw h.1
    have b := worth_in hh hw h.2
    show (spanF wd f).1 + (spanF wd g).1 ≤ worthF ws f + worthF ws g ∧ worthF ws f + worthF ws g ≤ (spanF wd f).2 + (spanF wd g).2
    omega
  | .less f g, h => by
    have a := worth_in hh hw h.1
    have b := worth_in hh hw h.2
    show (spanF wd f).1 - (spanF wd g).2 ≤ worthF ws f - worthF ws g ∧ worthF ws f - worthF ws g ≤ (spanF wd f).2 - (spanF wd g).1
    omega
  | .times f g, h => by
    have a := worth_in hh hw h.1
    have b := worth_in hh hw h.2
    exact mul_span a.1 a.2 b.1 b.2
  | .turned f, h => by
    have a := worth_in hh hw (f := f) h
    show -(spanF wd f).2 ≤ -worthF ws f ∧ -worthF ws f ≤ -(spanF wd f).1
    omega
def Bd (s : Int × Int) (n : Nat) : Prop := s.1.natAbs < 2 ^ n ∧ s.2.natAbs < 2 ^ n
theorem min4_mem (a b c d : Int) : min4 a b c d ∈ [a, b, c, d] ∧ ∀ y ∈ [a, b, c, d], min4 a b c d ≤ y := by
  unfold min4
  refine ⟨?_, fun y hy => ?_⟩
  · simp only [List.mem_cons, List.not_mem_nil, or_false]
    omega
  · simp only [List.mem_cons, List.not_mem_nil, or_false] at hy
    rcases hy with rfl | rfl | rfl | rfl <;> omega
theorem max4_mem (a b c d : Int) : max4 a b c d ∈ [a, b, c, d] ∧ ∀ y ∈ [a, b, c, d], y ≤ max4 a b c d := by
  unfold max4
  refine ⟨?_, fun y hy => ?_⟩
  · simp only [List.mem_cons, List.not_mem_nil, or_false]
    omega
  · simp only [List.mem_cons, List.not_mem_nil, or_false] at hy
    rcases hy with rfl | rfl | rfl | rfl <;> omega
theorem span_bd {N : Str → Prop} {ws : List (Str × Int)} (hw : WdOk ws) : ∀ {f : Fm}, FmOk N f → Bd (spanF ws f) (301 * f.size)
  | .name n, _ => by
    have p : 2 ^ 25 ≤ 2 ^ (301 * Fm.size (.name n)) := pow_le_of (by show 25 ≤ 301 * 1; decide)
    have e : 2 ^ 25 = 33554432 := by decide
    have b := spanW_bd (wd_get hw n)
    show (spanW ((lookW ws n).getD 1)).1.natAbs < _ ∧ (spanW ((lookW ws n).getD 1)).2.natAbs < _
    omega
  | .num n, h => by
    have p : 2 ^ 41 ≤ 2 ^ (301 * Fm.size (.num n)) := pow_le_of (by show 41 ≤ 301 * 1; decide)
    have e : 2 ^ 41 = 2199023255552 := by decide
    have h1 := h.1
    have h2 := h.2
    show n.natAbs < _ ∧ n.natAbs < _
    omega
  | .plus f g, h => by
    have a := span_bd hw h.1
    have b := span_bd hw h.2
    unfold Bd at a b
    have p1 : 2 ^ (301 * f.size) * 2 ≤ 2 ^ (301 * Fm.size (.plus f g)) := by rw [← Nat.pow_succ]; exact pow_le_of (by show 301 * f.size + 1 ≤ 301 * (f.size + g.size + 1); omega)
    have p2 : 2 ^ (301 * g.size) * 2 ≤ 2 ^ (301 * Fm.size (.plus f g)) := by rw [← Nat.pow_succ]; exact pow_le_of (by show 301 * g.size + 1 ≤ 301 * (f.size + g.size + 1); omega)
    show ((spanF ws f).1 + (spanF ws g).1).natAbs < _ ∧ ((spanF ws f).2 + (spanF ws g).2).natAbs < _
    omega
  | .less f g, h => by
    have a := span_bd hw h.1
    have b := span_bd hw h.2
    unfold Bd at a b
    have p1 : 2 ^ (301 * f.size) * 2 ≤ 2 ^ (301 * Fm.size (.less f g)) := by rw [← Nat.pow_succ]; exact pow_le_of (by show 301 * f.size + 1 ≤ 301 * (f.size + g.size + 1); omega)
    have p2 : 2 ^ (301 * g.size) * 2 ≤ 2 ^ (301 * Fm.size (.less f g)) := by rw [← Nat.pow_succ]; exact pow_le_of (by show 301 * g.size + 1 ≤ 301 * (f.size + g.size + 1); omega)
    show ((spanF ws f).1 - (spanF ws g).2).natAbs < _ ∧ ((spanF ws f).2 - (spanF ws g).1).natAbs < _
    omega
  | .times f g, h => by
    have a := span_bd hw h.1
    have b := span_bd hw h.2
    have p1 : 2 ^ (301 * f.size) * 2 ^ (301 * g.size) ≤ 2 ^ (301 * Fm.size (.times f g)) := by rw [← Nat.pow_add]; exact pow_le_of (by show 301 * f.size + 301 * g.size ≤ 301 * (f.size + g.size + 1); omega)
    have m : ∀ x y : Int, x.natAbs < 2 ^ (301 * f.size) → y.natAbs < 2 ^ (301 * g.size) → (x * y).natAbs < 2 ^ (301 * Fm.size (.times f g)) := fun x y hx hy => by
      rw [Int.natAbs_mul]
      exact Nat.lt_of_lt_of_le (Nat.mul_lt_mul'' hx hy) p1
    have all : ∀ z ∈ [(spanF ws f).1 * (spanF ws g).1, (spanF ws f).1 * (spanF ws g).2, (spanF ws f).2 * (spanF ws g).1, (spanF ws f).2 * (spanF ws g).2], z.natAbs < 2 ^ (301 * Fm.size (.times f g)) := by
      intro z hz
      simp only [List.mem_cons, List.not_mem_nil, or_false] at hz
      rcases hz with rfl | rfl | rfl | rfl
      · exact m _ _ a.1 b.1
      · exact m _ _ a.1 b.2
      · exact m _ _ a.2 b.1
      · exact m _ _ a.2 b.2
    exact ⟨all _ (min4_mem _ _ _ _).1, all _ (max4_mem _ _ _ _).1⟩
  | .turned f, h => by
    have a := span_bd hw (f := f) h
    unfold Bd at a
    have p1 : 2 ^ (301 * f.size) ≤ 2 ^ (301 * Fm.size (.turned f)) := pow_le_of (by show 301 * f.size ≤ 301 * (f.size + 1); omega)
    show (-(spanF ws f).2).natAbs < _ ∧ (-(spanF ws f).1).natAbs < _
    omega
theorem min_is {a b c d m : Int} (h1 : m ∈ [a, b, c, d]) (h2 : ∀ y ∈ [a, b, c, d], m ≤ y) : m = min4 a b c d := by
  have k := min4_mem a b c d
  exact Int.le_antisymm (h2 _ k.1) (k.2 _ h1)
theorem max_is {a b c d m : Int} (h1 : m ∈ [a, b, c, d]) (h2 : ∀ y ∈ [a, b, c, d], y ≤ m) : m = max4 a b c d := by
  have k := max4_mem a b c d
  exact Int.le_antisymm (k.2 _ h1) (h2 _ k.1)
theorem w_minL {K : PySem.W.Frag} {H : Hp} {Q : VK} {p : Addr} {ns : List Int} (h : SqL K H p (ns.map V.int)) (hn : 0 < ns.length) (q : ∀ m, m ∈ ns → (∀ y ∈ ns, m ≤ y) → Q (.int m) H) : rMin K [.ref p] H Q := ⟨p, ns, rfl, h, hn, q⟩
theorem c_minK {X : Cx} (K : PySem.W.Frag) (e : X.K = K := by rfl) (hc : X.calm = true := by rfl) : CallR X (.builtin "min") (rMin K) := by subst e; exact cr_min hc
end Dpr

namespace Dpr
open PySem PySem.Spec PyProof.Rows L2
/-! texts: rules by names of their own -/
def rLenS : List V → Hp → VK → Prop := fun xs H Q => ∃ z : Str, xs = [.str z] ∧ z.length ≤ sizeLine ∧ Q (.int z.length) H
theorem c_lenS {X : Cx} : CallR X (.builtin "len") rLenS := call_len_str
theorem w_lenS {z : Str} {H : Hp} {Q : VK} (hz : z.length ≤ 1000000) (q : Q (.int (z.length : Int)) H) : rLenS [V.str z] H Q := ⟨z, rfl, Nat.le_trans hz (by rw [sizeLine_eq]; decide), q⟩
def rStrI : List V → Hp → VK → Prop := fun xs H Q => ∃ i : Int, xs = [.int i] ∧ i.natAbs.log2 < 1920 ∧ Q (.str (Str.ofString (toString i))) H
theorem c_strI {X : Cx} : CallR X (.type "str") rStrI := call_str_int
theorem w_strI {i : Int} {H : Hp} {Q : VK} (h : i.natAbs < 2 ^ 1900) (q : Q (.str (Str.ofString (toString i))) H) : rStrI [V.int i] H Q :=
  ⟨i, rfl, Nat.lt_of_lt_of_le (PySem.Flt.log2_lt_of (by decide) h) (by decide), q⟩
theorem small_abs {i : Int} (h : -1000000000000000000 ≤ i ∧ i ≤ 1000000000000000000) : i.natAbs < 2 ^ 1900 :=
  Nat.lt_of_lt_of_le (show i.natAbs < 2 ^ 60 by have : (2 : Nat) ^ 60 = 1152921504606846976 := (by decide); omega) (Nat.pow_le_pow_right (by decide) (by decide))
def rIntS : List V → Hp → VK → Prop := fun xs H Q => ∃ (a : Str) (n : Int), xs = [.str a] ∧ PySem.intText? a = some n ∧ a.length ≤ 640 ∧ Q (.int n) H
theorem c_intS {X : Cx} : CallR X (.type "int") rIntS := call_int_str
theorem w_intS {a : Str} {n : Int} {H : Hp} {Q : VK} (h : PySem.intText? a = some n) (hl : a.length ≤ 640) (q : Q (.int n) H) : rIntS [V.str a] H Q := ⟨a, n, rfl, h, hl, q⟩
/-- str of a text, or of a number -/
def rStrA : List V → Hp → VK → Prop := fun xs H Q => (∃ a : Str, xs = [.str a] ∧ Q (.str a) H) ∨ rStrI xs H Q
theorem c_strA {X : Cx} : CallR X (.type "str") rStrA := by
  intro pins s σ H xs us Q I r h
  rcases h with h | h
  · exact SkE.call_str_str pins s σ H xs us Q I r h
  · exact call_str_int pins s σ H xs us Q I r h
theorem w_strAS {a : Str} {H : Hp} {Q : VK} (q : Q (.str a) H) : rStrA [V.str a] H Q := .inl ⟨a, rfl, q⟩
theorem w_strAI {i : Int} {H : Hp} {Q : VK} (h : i.natAbs < 2 ^ 1900) (q : Q (.str (Str.ofString (toString i))) H) : rStrA [V.int i] H Q := .inr (w_strI h q)
end Dpr

namespace Dpr
open PySem PySem.Spec PyProof.Rows L2
/-- the room of a span -/
def roomI (lo hi : Int) : Int × Bool :=
  if 0 ≤ lo then (if (Builtin.Int.intBits hi : Int) > 1 then (Builtin.Int.intBits hi : Int) else 1, false)
  else (1 + (if (Builtin.Int.intBits (if hi > 0 then hi else 0) : Int) > Builtin.Int.intBits (-lo - 1) then (Builtin.Int.intBits (if hi > 0 then hi else 0) : Int) else Builtin.Int.intBits (-lo - 1)), true)
/-- a span fits into so many bits, read so -/
def FitsB (lo hi : Int) (k : Nat) (b : Bool) : Prop := if b = true then -(2 ^ (k - 1)) ≤ lo ∧ hi < 2 ^ (k - 1) else hi < 2 ^ k
structure RoomOk (lo hi : Int) (m : Nat) (b : Bool) : Prop where
  eq : roomI lo hi = ((m : Int), b)
  pos : 1 ≤ m
  neg : b = decide (lo < 0)
  fit : FitsB lo hi m b
  least : ∀ k, 1 ≤ k → FitsB lo hi k b → m ≤ k
theorem room_ok {lo hi : Int} (h : lo ≤ hi) : ∃ m b, RoomOk lo hi m b := by
  by_cases h0 : 0 ≤ lo
  · have q := ib_le (x := hi) (by omega)
    have e : roomI lo hi = (if (Builtin.Int.intBits hi : Int) > 1 then (Builtin.Int.intBits hi : Int) else 1, false) := by rw [roomI, if_pos h0]
    refine ⟨max 1 (Builtin.Int.intBits hi), false, ?_, by omega, (decide_eq_false (by omega)).symm, ?_, fun k hk hf => ?_⟩
    · rw [e]
      congr 1
      split <;> omega
    · show hi < 2 ^ (max 1 (Builtin.Int.intBits hi))
      exact (q _).mp (by omega)
    · have := (q k).mpr (show hi < 2 ^ k from hf)
      omega
  · have q1 := ib_le (x := -lo - 1) (by omega)
    have q0 := ib_le (x := if hi > 0 then hi else 0) (by split <;> omega)
    have e : roomI lo hi = (1 + (if (Builtin.Int.intBits (if hi > 0 then hi else 0) : Int) > Builtin.Int.intBits (-lo - 1) then (Builtin.Int.intBits (if hi > 0 then hi else 0) : Int) else Builtin.Int.intBits (-lo - 1)), true) := by rw [roomI, if_neg h0]
    generalize Builtin.Int.intBits (-lo - 1) = B1 at q1 e
    generalize Builtin.Int.intBits (if hi > 0 then hi else 0) = B0 at q0 e
    refine ⟨1 + max B0 B1, true, ?_, by omega, (decide_eq_true (by omega)).symm, ?_, fun k hk hf => ?_⟩
    · rw [e]
      congr 1
      split <;> omega
    · show -(2 ^ (1 + max B0 B1 - 1)) ≤ lo ∧ hi < 2 ^ (1 + max B0 B1 - 1)
      rw [show 1 + max B0 B1 - 1 = max B0 B1 by omega]
      have a1 := (q1 (max B0 B1)).mp (by omega)
      have a0 := (q0 (max B0 B1)).mp (by omega)
      refine ⟨by omega, ?_⟩
      split at a0 <;> omega
    · have hf : -(2 ^ (k - 1)) ≤ lo ∧ hi < 2 ^ (k - 1) := hf
      have p : (0 : Int) < 2 ^ (k - 1) := p2pos _
      have b1 := (q1 (k - 1)).mpr (by omega)
      have b0 := (q0 (k - 1)).mpr (by split <;> omega)
      omega
theorem RoomOk.num {lo hi v : Int} {m : Nat} {b : Bool} (h : RoomOk lo hi m b) (h1 : lo ≤ v) (h2 : v ≤ hi) : numI (bitsI v m) b = v := by
  have hv := valI_bitsI v m
  have hf := h.fit
  unfold FitsB at hf
  unfold numI
  cases b with
  | false =>
    rw [if_neg (by decide)] at hf
    have hn := h.neg
    have h0 : ¬ lo < 0 := fun z => by rw [decide_eq_true z] at hn; cases hn
    rw [if_neg (by intro z; cases z.1), hv]
    exact Int.emod_eq_of_lt (by omega) (by omega)
  | true =>
    rw [if_pos rfl] at hf
    obtain ⟨n, rfl⟩ : ∃ n, m = n + 1 := ⟨m - 1, by have := h.pos; omega⟩
    rw [Nat.add_sub_cancel] at hf
    have ne : bitsI v (n + 1) ≠ [] := fun z => by have := congrArg List.length z; rw [bitsI_len] at this; cases this
    rw [if_pos ⟨rfl, ne⟩, hv, bitsI_len]
    have hl : (bitsI v (n + 1)).getLastD 0 = v / 2 ^ n % 2 := by rw [bitsI_succ]; exact List.getLastD_concat ..
    rw [hl, Int.pow_succ]
    have p : (0 : Int) < 2 ^ n := p2pos n
    generalize (2 : Int) ^ n = P at *
    by_cases c : 0 ≤ v
    · have e1 : v / P = 0 := Int.ediv_eq_zero_of_lt c (by omega)
      rw [e1, Int.emod_eq_of_lt c (by omega)]
      omega
    · have e1 : v / P = -1 := by
        have : (v + 1 * P) / P = v / P + 1 := Int.add_mul_ediv_right _ _ (Int.ne_of_gt p)
        have e2 : (v + 1 * P) / P = 0 := Int.ediv_eq_zero_of_lt (by omega) (by omega)
        omega
      have e3 : v % (P * 2) = v + P * 2 := by
        rw [← Int.add_emod_right v (P * 2)]
        exact Int.emod_eq_of_lt (by omega) (by omega)
      rw [e1, e3]
      omega
theorem ib_pow (n : Nat) : Builtin.Int.intBits (2 ^ n - 1) = n := by
  have p : (0 : Int) < 2 ^ n := p2pos n
  have q := ib_le (x := 2 ^ n - 1) (by omega)
  have a := (q n).mpr (by omega)
  refine Nat.le_antisymm a ?_
  refine Nat.le_of_not_lt fun z => ?_
  have b := (q (n - 1)).mp (by omega)
  obtain ⟨k, rfl⟩ : ∃ k, n = k + 1 := ⟨n - 1, by omega⟩
  rw [Nat.add_sub_cancel, Int.pow_succ] at b
  have : (0 : Int) < 2 ^ k := p2pos k
  omega
/-- the room of a name is its width -/
theorem room_width {w : Int} (h : w ≠ 0) : roomI (spanW w).1 (spanW w).2 = ((w.natAbs : Int), decide (w < 0)) := by
  unfold spanW
  by_cases c : 0 < w
  · rw [if_pos c]
    show roomI 0 (2 ^ w.toNat - 1) = _
    rw [roomI, if_pos (Int.le_refl 0), ib_pow, decide_eq_false (by omega)]
    congr 1
    split <;> omega
  · rw [if_neg c]
    show roomI (-(2 ^ (-w - 1).toNat)) (2 ^ (-w - 1).toNat - 1) = _
    have p : (0 : Int) < 2 ^ (-w - 1).toNat := p2pos _
    have e1 : -(-(2 : Int) ^ (-w - 1).toNat) - 1 = 2 ^ (-w - 1).toNat - 1 := by omega
    have e2 : (if (2 : Int) ^ (-w - 1).toNat - 1 > 0 then (2 : Int) ^ (-w - 1).toNat - 1 else 0) = 2 ^ (-w - 1).toNat - 1 := by split <;> omega
    rw [roomI, if_neg (by omega), e1, e2, ib_pow, decide_eq_true (by omega)]
    congr 1
    split <;> omega
end Dpr

namespace Dpr
open PySem PySem.Spec PyProof.Rows L2
/-! enumerate over a dict that is locked -/
section
variable {prog : Program} {w : World} {A : Around} {E : Value → Shared → Prop} {s : Shared}
theorem nextOf_key_item {it d : Addr} {i n ep : Nat} {od : Obj} {es : Array DictEntry} {en : DictEntry} {Q : Value → Shared → Prop} (hit : s.heap.IsKeyIter it d i n ep) (hod : s.heap.get? d = some od) (hdd : od.data = .dict es ep)
    (hsz : es.size = n) (hx : es[i]? = some en) (hQ : ∀ h', h'.IsKeyIter it d (i + 1) n ep → Heap.SameBut it s.heap h' → Q en.key { s with heap := h' }) : wpAny (model prog w) A (Builtin.SmallTypes.nextOf (.ref it)) Q E s := by
  obtain ⟨o, ho, hc, hd⟩ := id hit
  unfold Builtin.SmallTypes.nextOf
  refine wpAny_bind (wpAny_callSpecial?_slot (name := Str.ofString "__next__") hit.typeIs F.slot_dict_keyiterator_next
    (wpAny_call_entry F.slot_dict_keyiterator_next hit.typeIs F.entry_dict_keyiterator_next ?_ (F.args_dict_keyiterator_next_1 _)))
  refine wpAny_bind (wpAny_pure ?_)
  refine wpAny_bind ?_
  refine wpAny_bind ?_
  first | refine wpAny_bind (wpAny_typeNameOfWhole_keyiter hit.typeIs (wpAny_pure ?_)) | refine wpAny_bind (wpAny_typeNameOf_keyiter hit.typeIs (wpAny_pure ?_))
  refine wpAny_bind (wpAny_fieldsOf ho hd ?_)
  have hown : Builtin.Dict_items.ownsTuple "dict_keyiterator" = false := by decide
  simp only [hown, Bool.false_eq_true, if_false]
  show wpAny _ _ (if (Value.ref d == Value.none) = true then _ else _) _ _ s
  rw [if_neg (show ¬ ((Value.ref d == Value.none) = true) from Bool.false_ne_true)]
  refine wpAny_bind (wpAny_pure ?_)
  refine wpAny_bind (wpAny_dictEntries hod hdd ?_)
  rw [if_neg (by rw [hsz]; simp)]
  refine wpAny_bind (wpAny_pure ?_)
  refine wpAny_bind (wpAny_dictEpoch hod hdd ?_)
  rw [if_neg (by simp)]
  refine wpAny_pure ?_
  obtain ⟨hlt', hen⟩ := Array.getElem?_eq_some_iff.mp hx
  simp only [show ¬ ((i : Int) < 0) from by omega, if_false, Int.toNat_natCast, Array.getElem?_eq_getElem hlt']
  refine wpAny_bind ?_
  first | refine wpAny_bind (wpAny_typeNameOfWhole_keyiter hit.typeIs (wpAny_pure ?_)) | refine wpAny_bind (wpAny_typeNameOf_keyiter hit.typeIs (wpAny_pure ?_))
  refine wpAny_bind (wpAny_isOneOf_keyiter hit.typeIs ?_)
  show wpAny _ _ (setField (.ref it) 1 (rawInt ((i : Int) + 1)) >>= _) _ _ s
  refine wpAny_bind (wpAny_setField ho hd (by simp) ?_)
  have hit' : (s.heap.update it (Obj.mapFields (·.setIfInBounds 1 (rawInt ((i : Int) + 1))))).IsKeyIter it d (i + 1) n ep :=
    ⟨_, Heap.get?_update_self _ ho (Obj.isFreed_of_fields (Obj.data_mapFields hd _)), (Obj.cls_mapFields ..).trans hc, by rw [Obj.data_mapFields hd]; simp [rawInt]⟩
  refine wpAny_bind (wpAny_holding ?_)
  refine wpAny_bind (wpAny_isOneOf_keyiter (s := { s with heap := s.heap.update it (Obj.mapFields (·.setIfInBounds 1 (rawInt ((i : Int) + 1)))) }) hit'.typeIs ?_)
  show wpAny _ _ (pure es[i].key) _ _ _
  rw [hen]
  exact wpAny_pure (wpAny_pure ⟨_, rfl, wpAny_pure (hQ _ hit' (Heap.SameBut.update ..))⟩)
theorem nextOf_key_end {it d : Addr} {i n ep : Nat} {od : Obj} {es : Array DictEntry} {Q : Value → Shared → Prop} (hh : A.handled = none) (hit : s.heap.IsKeyIter it d i n ep) (hod : s.heap.get? d = some od) (hdd : od.data = .dict es ep)
    (hsz : es.size = n) (hge : n ≤ i) (hE : ∀ h' e, Heap.ExtBut it s.heap h' → (∃ o, h'.get? e = some o ∧ o.cls = .type "StopIteration") → E (.ref e) { s with heap := h' }) : wpAny (model prog w) A (Builtin.SmallTypes.nextOf (.ref it)) Q E s := by
  obtain ⟨o, ho, hc, hd⟩ := id hit
  unfold Builtin.SmallTypes.nextOf
  refine wpAny_bind (wpAny_callSpecial?_slot (name := Str.ofString "__next__") hit.typeIs F.slot_dict_keyiterator_next
    (wpAny_call_entry F.slot_dict_keyiterator_next hit.typeIs F.entry_dict_keyiterator_next ?_ (F.args_dict_keyiterator_next_1 _)))
  refine wpAny_bind (wpAny_pure ?_)
  refine wpAny_bind ?_
  refine wpAny_bind ?_
  first | refine wpAny_bind (wpAny_typeNameOfWhole_keyiter hit.typeIs (wpAny_pure ?_)) | refine wpAny_bind (wpAny_typeNameOf_keyiter hit.typeIs (wpAny_pure ?_))
  refine wpAny_bind (wpAny_fieldsOf ho hd ?_)
  have hown : Builtin.Dict_items.ownsTuple "dict_keyiterator" = false := by decide
  simp only [hown, Bool.false_eq_true, if_false]
  show wpAny _ _ (if (Value.ref d == Value.none) = true then _ else _) _ _ s
  rw [if_neg (show ¬ ((Value.ref d == Value.none) = true) from Bool.false_ne_true)]
  refine wpAny_bind (wpAny_pure ?_)
  refine wpAny_bind (wpAny_dictEntries hod hdd ?_)
  rw [if_neg (by rw [hsz]; simp)]
  refine wpAny_bind (wpAny_pure ?_)
  refine wpAny_bind (wpAny_dictEpoch hod hdd ?_)
  rw [if_neg (by simp)]
  refine wpAny_pure ?_
  have hge' : es.size ≤ i := by rw [hsz]; exact hge
  simp only [show ¬ ((i : Int) < 0) from by omega, if_false, Int.toNat_natCast, Array.getElem?_eq_none hge']
  refine wpAny_bind ?_
  first | refine wpAny_bind (wpAny_typeNameOfWhole_keyiter hit.typeIs (wpAny_pure ?_)) | refine wpAny_bind (wpAny_typeNameOf_keyiter hit.typeIs (wpAny_pure ?_))
  show wpAny _ _ (setField (.ref it) 0 .none >>= _) _ _ s
  refine wpAny_bind (wpAny_setField ho hd (by simp) ?_)
  show wpAny _ _ (newExc (.type "StopIteration") [] >>= _) _ _ _
  refine wpAny_bind ?_
  simp only [newExc, newTuple]
  refine wpAny_bind (wpAny_newObj_type ?_ (by size_fits))
  refine wpAny_bind (m := firstArgMember _ _) (wpAny_of_eq (a := Value.none) (by first | rfl | (simp only [firstArgMember]; rfl)) ?_)
  refine wpAny_newObj_type ?_ (by size_fits)
  simp only [raiseNew]
  refine wpAny_bind (wpAny_handled ?_)
  first | rw [show A.in1.handled = none from hh] | rw [hh]
  refine wpAny_bind (wpAny_pure (wpAny_throw ?_))
  exact hE _ _ (((Heap.SameBut.update ..).extBut.push _).push _) ⟨_, Heap.get?_push_size _ rfl, rfl⟩
end
theorem Draws_keys {prog : Program} {w : World} {A : Around} (hh : A.handled = none) {it d : Addr} (hne : d ≠ it) {od : Obj} {es : Array DictEntry} {ep : Nat} (hdd : od.data = .dict es ep) :
    Draws prog w A it [it, d] es.size (fun i v => ∃ en, es[i]? = some en ∧ v = en.key) (fun i h => h.IsKeyIter it d i es.size ep ∧ h.get? d = some od) where
  live := fun _ _ st => let ⟨o, ho, _⟩ := st.1; ⟨o, ho⟩
  frame := fun _ _ _ st hk => ⟨st.1.at fun o e => hk it (by simp) o e, hk d (by simp) _ st.2⟩
  item := fun i s Q E hi st hQ => by
    refine nextOf_key_item st.1 st.2 hdd rfl (en := es[i]) (by simp [hi]) fun h' hit' hs' => ?_
    exact hQ _ h' s.toks ⟨es[i], by simp [hi], rfl⟩ ⟨hit', hs'.extBut d _ hne st.2⟩ hs'
  done := fun s Q E st hE => nextOf_key_end hh st.1 st.2 hdd rfl (Nat.le_refl _) hE
theorem begins_keys (d : Addr) (hd : (d == sysModules) = false) {od : Obj} {es : Array DictEntry} {ep : Nat} (hc : od.ExactDict) (hdd : od.data = .dict es ep) : Begins (.ref d) { cls := .type "dict_keyiterator", data := .fields #[.ref d, .int 0 0, .int es.size 0, .int ep 0] } fun h => h.get? d = some od where
  iter := fun prog w A E s Q hl h => iter_keys hd hl hc hdd h
  keeps := fun h h' x hk => hk d _ x
  free := rfl
set_option maxHeartbeats 1000000 in
theorem meets_enumerate_newB1 {v : Value} {o : Obj} {H : Heap → Prop} (B : Begins v o H) :
    Meets (Builtin.«enumerate.__new__» ⟨[.type "enumerate", v], []⟩) (fun _ R s => H s.heap ∧
      R (.ok (.ret (.ref (s.heap.push o).objs.size))) { s with heap := (s.heap.push o).push { cls := .type "enumerate", data := .fields #[.none, .bool false, .ref s.heap.objs.size, rawInt 0, .none, .none] } }) :=
  .of_wp fun prog w A R s h => by
    obtain ⟨hp, g, d, tk, os⟩ := s; obtain ⟨h1, h⟩ := h
    have hsub := sub_enumerate
    have q1 : ∀ {A' : Around} {E : Value → Shared → Prop} {Q : Value → Shared → Prop}, Q (.ref hp.objs.size) ⟨hp.push o, g, d, tk, os⟩ → wpAny (model prog w) A' (pyIter v) Q E ⟨hp, g, d, tk, os⟩ :=
      fun q => B.iter prog w _ _ ⟨hp, g, d, tk, os⟩ _ h1 q
    wp_walk using q1
    refine wpAny_stack_any fun st => wpAny_pure ?_
    split
    · rename_i c _ _ _ _ _
      cases (c == Value.type "enumerate")
      · wp_walk using q1
        exact ⟨_, rfl, h⟩
      · wp_walk using q1
        exact ⟨_, rfl, h⟩
    · wp_walk using q1
      exact ⟨_, rfl, h⟩
section
variable {prog : Program} {w : World} {A : Around} {E : Value → Shared → Prop} {s : Shared}
theorem enum_begins1 {v : Value} {o : Obj} {H : Heap → Prop} {Q : Value → Shared → Prop} (B : Begins v o H) (h1 : H s.heap)
    (h : ∀ h', IsEnum h' (s.heap.objs.size + 1) s.heap.objs.size 0 .none → h'.get? s.heap.objs.size = some o → h'.objs.size = s.heap.objs.size + 2 →
      (∀ b o, s.heap.get? b = some o → h'.get? b = some o) → Q (.ref (s.heap.objs.size + 1)) { s with heap := h' }) :
    wpAny (model prog w) A (call (.type "enumerate") [v]) Q E s := by
  refine callType_new F.called_enumerate (by decide) (F.typeCall_enumerate_1 _) (F.newCall_enumerate_1 _) (fun obj => F.args_object_init_2 obj _) F.entry_enumerate_new
    (meets_enumerate_newB1 B) ⟨h1, ?_⟩
  have hz : (s.heap.push o).objs.size = s.heap.objs.size + 1 := Heap.size_push ..
  show _ ∧ _
  rw [hz]
  have he : IsEnum ((s.heap.push o).push { cls := .type "enumerate", data := .fields #[.none, .bool false, .ref s.heap.objs.size, rawInt 0, .none, .none] }) (s.heap.objs.size + 1) s.heap.objs.size 0 .none := by
    have := Heap.get?_push_size (s.heap.push o) (o := { cls := .type "enumerate", data := .fields #[.none, .bool false, .ref s.heap.objs.size, rawInt 0, .none, .none] }) rfl
    rw [hz] at this; exact this
  refine ⟨⟨_, he, rfl⟩, h _ he (Heap.get?_push_of_some _ (Heap.get?_push_size _ B.free)) (by rw [Heap.size_push, hz]) fun b o x => Heap.get?_push_of_some _ (Heap.get?_push_of_some _ x)⟩
end
/-- the keys of the locked dict at d, each in a new pair -/
def Ikp (d : Addr) (o : Obj) (kvs : List (Key × V)) : It :=
  ⟨fun i H => H d = some (.frz o (.dK kvs)) ∧ i < kvs.length, fun i H v H' => ∃ T k x, v = .ref T ∧ kvs[i]? = some (k, x) ∧ H T = none ∧ H' = upd H T (.tup [.int (i : Nat), kV k]), fun i H => H d = some (.frz o (.dK kvs)) ∧ kvs.length ≤ i⟩
theorem turn_enumK {P : Program} {w : World} {K : PySem.W.Frag} {elts : List Expr} {kk : Nat} {tpos : Pos} {d e it : Addr} {o : Obj} {es : Array DictEntry} {ep : Nat} {kvs : List (Key × V)} (hod : o.data = .dict es ep) (hsz : es.size = kvs.length) :
    Turn P w K (.Tuple elts kk tpos) (Ikp d o kvs) [e, it] e (fun i h => (∃ old, IsEnum h e it ((i : Nat) : Int) old) ∧ h.IsKeyIter it d i es.size ep ∧ e ≠ it ∧ d ≠ it ∧ e ≠ d ∧ i ≤ es.size) where
  mem := by simp
  obj := fun i h st b hb => by
    obtain ⟨⟨old, he⟩, ⟨o, ho, hc, hd⟩, _⟩ := st
    have e' : b = e ∨ b = it := by simpa using hb
    rcases e' with z | z
    · rw [z]; exact ⟨_, he, fun v q => nomatch q⟩
    · rw [z]; exact ⟨o, ho, fun v q => by rw [hd] at q; cases q⟩
  keep := fun i h h' st k => let ⟨⟨old, he⟩, hi, hne⟩ := st; ⟨⟨old, k e (by simp) _ he⟩, hi.at fun o q => k it (by simp) o q, hne⟩
  item := by
    intro X hP hw hK hc i pins s σ H E I hf st hg
    subst hP hw hK
    obtain ⟨⟨old, he⟩, hit, hne, hdi, hed, hil2⟩ := st
    obtain ⟨hd, hi⟩ := hg
    obtain ⟨hs, hgd, hx, es', ep', vs, hdt, hsz', kv, hm⟩ := I.frzK hd
    obtain ⟨⟨k, v⟩, hkv⟩ : ∃ p, kvs[i]? = some p := ⟨kvs[i], List.getElem?_eq_getElem hi⟩
    obtain ⟨u, hu, ru⟩ := kv_get kv hkv
    have hel : e < s.heap.objs.size := Heap.lt_size he
    have hil : it < s.heap.objs.size := by obtain ⟨_, q, _⟩ := hit; exact Heap.lt_size q
    refine wpAny_pyNext_enum_itemC (Draws_keys (A := X.A.in1) (I.ok.hd hc) hdi hod) he ⟨hit, hgd⟩ (by omega) hne (by simp only [List.mem_cons, List.not_mem_nil, or_false]; exact fun z => z.elim hne hed) fun x h' tk hP ho hit' hT hszh hk => ?_
    obtain ⟨en, hen, rfl⟩ := hP
    have hkey : keyIs k en.key = true := by
      obtain ⟨od2, es2, hod2, hcd2, hdd2, hk2, hp2, hn2⟩ := id hm
      rw [hgd] at hod2
      cases hod2
      obtain ⟨e1, e2⟩ := dict_ep hod hdd2
      rw [← e1] at hen
      exact (hp2.get? (e := en) (by simpa using hen) hu).1
    refine ⟨_, rfl, wpAny_letOwnedTupleGo_enum (s := { s with heap := h', toks := tk + 1 }) ho fun h'' he' sb => ?_⟩
    have hT2 : h''.get? s.heap.objs.size = some { cls := .type "tuple", data := .seq #[.int i tk, en.key] } := (sb.2 _ (Nat.ne_of_gt hel)).trans hT
    have new : ObjOk X.prog X.w (upd H s.heap.objs.size (.tup [.int (i : Nat), kV k])) h'' s.heap.objs.size (.tup [.int (i : Nat), kV k]) :=
      ⟨by show 2 ≤ sizeLine; decide, [.int i tk, en.key], .cons ⟨_, rfl⟩ (.cons (relV_key hkey) .nil), ⟨_, hT2, rfl, _, rfl⟩⟩
    have I1 : Inv X pins σ (upd H s.heap.objs.size (.tup [.int (i : Nat), kV k])) { s with heap := h'', toks := tk + 1 } :=
      I.turnedNew (ch := [e, it]) (fun b ob hb q => (sb.2 b (fun z => hb (by simp [z]))).trans (hk b ob (fun z => hb (by simp [z])) (fun z => hb (by simp [z])) q)) hf (Nat.le_refl _) new
    refine ⟨.ref s.heap.objs.size, _, I1, rfl, ⟨_, k, v, rfl, hkv, I.hok.fresh (Nat.le_refl _), rfl⟩, ⟨⟨en.key, ?_⟩, hit'.1.at fun o q => (sb.2 it (Ne.symm hne)).trans q, hne, hdi, hed, by omega⟩, fun b hb => ?_⟩
    · have e1 : ((i + 1 : Nat) : Int) = (i : Int) + 1 := by omega
      rw [e1]; exact he'
    · have hb' : b < s.heap.objs.size := by
        have e' : b = e ∨ b = it := by simpa using hb
        rcases e' with z | z
        · rw [z]; exact hel
        · rw [z]; exact hil
      rw [upd_ne (Nat.ne_of_lt hb')]
      exact (hf b hb).1
  done := by
    intro X hP hw hK hc i pins s σ H E I hf st hg
    subst hP hw hK
    obtain ⟨⟨old, he⟩, hit, hne, hdi, hed, hil2⟩ := st
    obtain ⟨hd, hi⟩ := hg
    obtain ⟨hs, hgd, hx, es', ep', vs, hdt, hsz', kv, hm⟩ := I.frzK hd
    obtain ⟨f0, f1, f2, f3, f4, f5⟩ := hf it (by simp)
    have hie : i = es.size := by omega
    subst hie
    exact wpAny_pyNext_enum_endD (Draws_keys (A := X.A.in1) (I.ok.hd hc) hdi hod) he ⟨hit, hgd⟩ fun h' eb => ⟨rfl, I.turned (t' := s.toks) (fun b o hb q => eb b o hb q) f0 f1 f3 f4 f5⟩
  self := fun A i s Q E st h => let ⟨⟨_, he⟩, _⟩ := st; wpAny_pyIter_enum he h
def iEnumK (ta : TA) : TI := fun σ H R => ta σ H fun vs H1 => ∃ d o kvs, vs = [.ref d] ∧ H1 d = some (.frz o (.dK kvs)) ∧ R (Ikp d o kvs) H1
theorem pi_enumK {X : Cx} {e : Expr} {ta : TA} {p pos tpos : Pos} {elts : List Expr} {kk : Nat} (hg : Gl X "enumerate") (hm : X.mg "enumerate" = none) (ha : PA X [e] ta) (hs : starEach [e] X.env = [(false, eval e X.env)] := by rfl) :
    PI X (.Tuple elts kk tpos) (.Call (.Name "enumerate" p) [e] [] pos) (iEnumK ta) := by
  refine ⟨fun pins s σ H R I h => ?_⟩
  refine Call_ (ld_blt I hg hm boot_enumerate (PyProof.Rows.callWith_type1 (thn (ha.run pos pins s σ H _ I h) fun us s1 ⟨vs, H1, I1, r1, q1⟩ => ?_) hs rfl))
  obtain ⟨d, o, kvs, ex, hd, q⟩ := q1
  subst ex
  cases r1 with
  | cons r rr =>
    cases rr
    cases r
    obtain ⟨hs', hgd, hx, es, ep, vs, hdt, hsz, kv, hm⟩ := I1.frzK hd
    have hdl : d < s1.heap.objs.size := Heap.lt_size hgd
    refine enum_begins1 (begins_keys d hs' hx hdt) hgd fun h' he hit hszh hk => wpAny_pyIter_enum he ?_
    have I2 : Inv X pins σ H1 { s1 with heap := h' } := I1.kept (t' := s1.toks) hk
    refine ⟨s1.heap.objs.size + 1, [s1.heap.objs.size + 1, s1.heap.objs.size], _, _, H1, rfl, I2, turn_enumK (d := d) (e := s1.heap.objs.size + 1) (it := s1.heap.objs.size) hdt hsz, ⟨⟨.none, he⟩, ⟨_, hit, rfl, rfl⟩, Nat.succ_ne_self _, Nat.ne_of_lt hdl, fun z => absurd (z ▸ hdl) (Nat.not_lt.mpr (Nat.le_succ _)), Nat.zero_le _⟩, fun b hb => ?_, q⟩
    have e' : b = s1.heap.objs.size + 1 ∨ b = s1.heap.objs.size := by simpa using hb
    have hle : s1.heap.objs.size ≤ b := by
      rcases e' with z | z
      · rw [z]; exact Nat.le_add_right _ _
      · rw [z]; exact Nat.le_refl _
    exact I1.fpOk hle (I1.hok.fresh hle)
end Dpr

namespace Dpr
open PySem PySem.Spec PyProof.Rows L2
def topS (i : Nat) : Stmt := PySem.Challenge.pw_dotpress_k42_what_is_not_made.main.body.getD i (.Pass ⟨0, 0, 0, 0⟩)
abbrev s_Splits__init : Stmt := inClass (topS 11) 0
theorem sc_Splits__init : FnScope ["self", "numbers"] ["self", "numbers"] (defScope s_Splits__init) := ⟨rfl, rfl, rfl, by decide +kernel, rfl, by decide +kernel, by decide +kernel⟩
abbrev s_Splits_part : Stmt := inClass (topS 11) 1
theorem sc_Splits_part : FnScope ["self", "low", "high", "number"] ["self", "low", "high"] (defScope s_Splits_part) := ⟨rfl, rfl, rfl, by decide +kernel, rfl, by decide +kernel, by decide +kernel⟩
abbrev s_joined : Stmt := topS 12
theorem sc_joined : FnScope ["sheet", "high", "low", "through", "make", "passes"] ["sheet", "high", "low"] (defScope s_joined) := ⟨rfl, rfl, rfl, by decide +kernel, rfl, by decide +kernel, by decide +kernel⟩
abbrev s_stretch : Stmt := topS 13
theorem sc_stretch : FnScope ["sheet", "pairs", "low", "high", "splits", "middle", "lower", "upper", "pair"] ["sheet", "pairs", "low", "high", "splits"] (defScope s_stretch) := ⟨rfl, rfl, rfl, by decide +kernel, rfl, by decide +kernel, by decide +kernel⟩
abbrev s_prefixes : Stmt := topS 14
theorem sc_prefixes : FnScope ["sheet", "pairs", "splits"] ["sheet", "pairs", "splits"] (defScope s_prefixes) := ⟨rfl, rfl, rfl, by decide +kernel, rfl, by decide +kernel, by decide +kernel⟩
abbrev s_summed : Stmt := topS 15
theorem sc_summed : FnScope ["sheet", "heap", "splits", "none", "pairs", "k", "dots", "make", "told", "outs"] ["sheet", "heap", "splits"] (defScope s_summed) := ⟨rfl, rfl, rfl, by decide +kernel, rfl, by decide +kernel, by decide +kernel⟩
abbrev s_span_of_width : Stmt := topS 17
theorem sc_span_of_width : FnScope ["width", "half"] ["width"] (defScope s_span_of_width) := ⟨rfl, rfl, rfl, by decide +kernel, rfl, by decide +kernel, by decide +kernel⟩
abbrev s_room_of : Stmt := topS 18
theorem sc_room_of : FnScope ["span", "low", "high"] ["span"] (defScope s_room_of) := ⟨rfl, rfl, rfl, by decide +kernel, rfl, by decide +kernel, by decide +kernel⟩
abbrev s_span_of : Stmt := topS 20
theorem sc_span_of : FnScope ["formula", "widths", "word", "one", "other", "ends"] ["formula", "widths"] (defScope s_span_of) := ⟨rfl, rfl, rfl, by decide +kernel, rfl, by decide +kernel, by decide +kernel⟩
abbrev s_parts_of : Stmt := topS 21
theorem sc_parts_of : FnScope ["formula", "found", "part"] ["formula"] (defScope s_parts_of) := ⟨rfl, rfl, rfl, by decide +kernel, rfl, by decide +kernel, by decide +kernel⟩
abbrev s_Heap__init : Stmt := inClass (topS 23) 0
theorem sc_Heap__init : FnScope ["self", "many", "k"] ["self", "many"] (defScope s_Heap__init) := ⟨rfl, rfl, rfl, by decide +kernel, rfl, by decide +kernel, by decide +kernel⟩
abbrev s_Heap_put : Stmt := inClass (topS 23) 1
theorem sc_Heap_put : FnScope ["self", "column", "wire"] ["self", "column", "wire"] (defScope s_Heap_put) := ⟨rfl, rfl, rfl, by decide +kernel, rfl, by decide +kernel, by decide +kernel⟩
abbrev s_Heap_heights : Stmt := inClass (topS 23) 2
theorem sc_Heap_heights : FnScope ["self", "dots"] ["self"] (defScope s_Heap_heights) := ⟨rfl, rfl, rfl, by decide +kernel, rfl, by decide +kernel, by decide +kernel⟩
abbrev s_Heap_column : Stmt := inClass (topS 23) 3
theorem sc_Heap_column : FnScope ["self", "k"] ["self", "k"] (defScope s_Heap_column) := ⟨rfl, rfl, rfl, by decide +kernel, rfl, by decide +kernel, by decide +kernel⟩
abbrev s_Heap_press : Stmt := inClass (topS 23) 4
theorem sc_Heap_press : FnScope ["self", "sheet", "k", "dots", "one", "two", "three", "half", "odd", "both", "more", "carry"] ["self", "sheet", "k"] (defScope s_Heap_press) := ⟨rfl, rfl, rfl, by decide +kernel, rfl, by decide +kernel, by decide +kernel⟩
abbrev s_high_columns : Stmt := topS 24
theorem sc_high_columns : FnScope ["heap", "k", "many"] ["heap"] (defScope s_high_columns) := ⟨rfl, rfl, rfl, by decide +kernel, rfl, by decide +kernel, by decide +kernel⟩
abbrev s_press_by_order : Stmt := topS 25
theorem sc_press_by_order : FnScope ["sheet", "heap", "order", "pressed", "ready", "at"] ["sheet", "heap", "order"] (defScope s_press_by_order) := ⟨rfl, rfl, rfl, by decide +kernel, rfl, by decide +kernel, by decide +kernel⟩
abbrev s_press_by_rounds : Stmt := topS 26
theorem sc_press_by_rounds : FnScope ["sheet", "heap", "rounds", "k", "many", "turn"] ["sheet", "heap"] (defScope s_press_by_rounds) := ⟨rfl, rfl, rfl, by decide +kernel, rfl, by decide +kernel, by decide +kernel⟩
abbrev s_Sheet__init : Stmt := inClass (topS 28) 0
theorem sc_Sheet__init : FnScope ["self"] ["self"] (defScope s_Sheet__init) := ⟨rfl, rfl, rfl, by decide +kernel, rfl, by decide +kernel, by decide +kernel⟩
abbrev s_Sheet_add : Stmt := inClass (topS 28) 1
theorem sc_Sheet_add : FnScope ["self", "row"] ["self", "row"] (defScope s_Sheet_add) := ⟨rfl, rfl, rfl, by decide +kernel, rfl, by decide +kernel, by decide +kernel⟩
abbrev s_Sheet_rows_now : Stmt := inClass (topS 28) 2
theorem sc_Sheet_rows_now : FnScope ["self"] ["self"] (defScope s_Sheet_rows_now) := ⟨rfl, rfl, rfl, by decide +kernel, rfl, by decide +kernel, by decide +kernel⟩
abbrev s_Circuit__init : Stmt := inClass (topS 31) 0
theorem sc_Circuit__init : FnScope ["self", "rows", "outs", "below"] ["self", "rows", "outs", "below"] (defScope s_Circuit__init) := ⟨rfl, rfl, rfl, by decide +kernel, rfl, by decide +kernel, by decide +kernel⟩
abbrev s_Plan__init : Stmt := inClass (topS 32) 0
theorem sc_Plan__init : FnScope ["self", "widths", "order", "splits"] ["self", "widths", "order", "splits"] (defScope s_Plan__init) := ⟨rfl, rfl, rfl, by decide +kernel, rfl, by decide +kernel, by decide +kernel⟩
abbrev s_Plan_finished : Stmt := inClass (topS 32) 1
theorem sc_Plan_finished : FnScope ["self", "heap"] ["self", "heap"] (defScope s_Plan_finished) := ⟨rfl, rfl, rfl, by decide +kernel, rfl, by decide +kernel, by decide +kernel⟩
abbrev s_apart : Stmt := topS 33
theorem sc_apart : FnScope ["formula", "sign"] ["formula", "sign"] (defScope s_apart) := ⟨rfl, rfl, rfl, by decide +kernel, rfl, by decide +kernel, by decide +kernel⟩
abbrev s_name_dots : Stmt := topS 34
theorem sc_name_dots : FnScope ["plan", "name", "width", "dots", "k", "sign"] ["plan", "name"] (defScope s_name_dots) := ⟨rfl, rfl, rfl, by decide +kernel, rfl, by decide +kernel, by decide +kernel⟩
abbrev s_word_dots : Stmt := topS 35
theorem sc_word_dots : FnScope ["plan", "formula", "many", "below", "dots", "k", "wire", "sign"] ["plan", "formula"] (defScope s_word_dots) := ⟨rfl, rfl, rfl, by decide +kernel, rfl, by decide +kernel, by decide +kernel⟩
abbrev s_part_dots : Stmt := topS 36
theorem sc_part_dots : FnScope ["plan", "formula", "many", "ones", "others", "dots", "one", "other", "wire"] ["plan", "formula", "many"] (defScope s_part_dots) := ⟨rfl, rfl, rfl, by decide +kernel, rfl, by decide +kernel, by decide +kernel⟩
abbrev s_bits_made : Stmt := topS 37
theorem sc_bits_made : FnScope ["plan", "formula", "many", "heap", "beside", "sign", "part", "column", "wire", "own", "k"] ["plan", "formula"] (defScope s_bits_made) := ⟨rfl, rfl, rfl, by decide +kernel, rfl, by decide +kernel, by decide +kernel⟩
abbrev s_look : Stmt := topS 38
theorem sc_look : FnScope ["formula", "widths", "parts", "part"] ["formula", "widths"] (defScope s_look) := ⟨rfl, rfl, rfl, by decide +kernel, rfl, by decide +kernel, by decide +kernel⟩
abbrev s_circuit_of : Stmt := topS 39
theorem sc_circuit_of : FnScope ["formula", "widths", "order", "splits", "plan", "outs"] ["formula", "widths", "order", "splits"] (defScope s_circuit_of) := ⟨rfl, rfl, rfl, by decide +kernel, rfl, by decide +kernel, by decide +kernel⟩
abbrev s_law_mixed : Stmt := topS 41
theorem sc_law_mixed : FnScope ["_law_cell", "_law_k", "_law_number_here"] ["_law_cell", "_law_k"] (defScope s_law_mixed) := ⟨rfl, rfl, rfl, by decide +kernel, rfl, by decide +kernel, by decide +kernel⟩
abbrev s_law_whole : Stmt := topS 42
theorem sc_law_whole : FnScope ["_law_found"] ["_law_found"] (defScope s_law_whole) := ⟨rfl, rfl, rfl, by decide +kernel, rfl, by decide +kernel, by decide +kernel⟩
abbrev s_law_names : Stmt := topS 43
theorem sc_law_names : FnScope ["_law_cell", "_law_letters", "_law_mixed_here", "_law_size", "_law_place", "_law_names_here", "_law_k", "_law_name", "_law_j", "_law_at"] ["_law_cell"] (defScope s_law_names) := ⟨rfl, rfl, rfl, by decide +kernel, rfl, by decide +kernel, by decide +kernel⟩
abbrev s_law_worth : Stmt := topS 44
theorem sc_law_worth : FnScope ["_law_formula", "_law_words_here", "_law_one", "_law_other"] ["_law_formula", "_law_words_here"] (defScope s_law_worth) := ⟨rfl, rfl, rfl, by decide +kernel, rfl, by decide +kernel, by decide +kernel⟩
abbrev s_law_ends : Stmt := topS 45
theorem sc_law_ends : FnScope ["_law_width"] ["_law_width"] (defScope s_law_ends) := ⟨rfl, rfl, rfl, by decide +kernel, rfl, by decide +kernel, by decide +kernel⟩
abbrev s_law_span : Stmt := topS 46
theorem sc_law_span : FnScope ["_law_formula", "_law_widths", "_law_one", "_law_other", "_law_some"] ["_law_formula", "_law_widths"] (defScope s_law_span) := ⟨rfl, rfl, rfl, by decide +kernel, rfl, by decide +kernel, by decide +kernel⟩
abbrev s_law_room : Stmt := topS 47
theorem sc_law_room : FnScope ["_law_span_here", "_law_low", "_law_high", "_law_many"] ["_law_span_here"] (defScope s_law_room) := ⟨rfl, rfl, rfl, by decide +kernel, rfl, by decide +kernel, by decide +kernel⟩
abbrev s_law_wide : Stmt := topS 48
theorem sc_law_wide : FnScope ["_law_formula", "_law_widths", "_law_part"] ["_law_formula", "_law_widths"] (defScope s_law_wide) := ⟨rfl, rfl, rfl, by decide +kernel, rfl, by decide +kernel, by decide +kernel⟩
abbrev s_law_bits : Stmt := topS 49
theorem sc_law_bits : FnScope ["_law_rows", "_law_words_here", "_law_bits_here", "_law_row"] ["_law_rows", "_law_words_here"] (defScope s_law_bits) := ⟨rfl, rfl, rfl, by decide +kernel, rfl, by decide +kernel, by decide +kernel⟩
abbrev s_law_gate : Stmt := topS 50
theorem sc_law_gate : FnScope ["_law_row", "_law_at", "_law_wires", "_law_good_here", "_law_wire"] ["_law_row", "_law_at"] (defScope s_law_gate) := ⟨rfl, rfl, rfl, by decide +kernel, rfl, by decide +kernel, by decide +kernel⟩
abbrev s_law_good : Stmt := topS 51
theorem sc_law_good : FnScope ["_law_rows", "_law_names_here", "_law_at", "_law_row"] ["_law_rows", "_law_names_here"] (defScope s_law_good) := ⟨rfl, rfl, rfl, by decide +kernel, rfl, by decide +kernel, by decide +kernel⟩
abbrev s_law_names_of : Stmt := topS 52
theorem sc_law_names_of : FnScope ["_law_formula", "_law_found", "_law_part"] ["_law_formula"] (defScope s_law_names_of) := ⟨rfl, rfl, rfl, by decide +kernel, rfl, by decide +kernel, by decide +kernel⟩
abbrev s_law_formed : Stmt := topS 53
theorem sc_law_formed : FnScope ["_law_found", "_law_formula", "_law_widths", "_law_row", "_law_many", "_law_below", "_law_wire"] ["_law_found", "_law_formula", "_law_widths"] (defScope s_law_formed) := ⟨rfl, rfl, rfl, by decide +kernel, rfl, by decide +kernel, by decide +kernel⟩
abbrev s_law_words : Stmt := topS 54
theorem sc_law_words : FnScope ["_law_widths", "_law_seed", "_law_turn", "_law_words_here", "_law_k", "_law_name", "_law_low", "_law_high", "_law_drawn_here"] ["_law_widths", "_law_seed", "_law_turn"] (defScope s_law_words) := ⟨rfl, rfl, rfl, by decide +kernel, rfl, by decide +kernel, by decide +kernel⟩
abbrev s_law_number : Stmt := topS 55
theorem sc_law_number : FnScope ["_law_bits_here", "_law_outs", "_law_below", "_law_total", "_law_k"] ["_law_bits_here", "_law_outs", "_law_below"] (defScope s_law_number) := ⟨rfl, rfl, rfl, by decide +kernel, rfl, by decide +kernel, by decide +kernel⟩
abbrev s_law_asked : Stmt := topS 56
theorem sc_law_asked : FnScope ["_law_formula", "_law_widths", "_law_found", "_law_fault", "e"] ["_law_formula", "_law_widths"] (defScope s_law_asked) := ⟨rfl, rfl, rfl, by decide +kernel, rfl, by decide +kernel, by decide +kernel⟩
abbrev s_law_held : Stmt := topS 57
theorem sc_law_held : FnScope ["_law_formula", "_law_widths", "_law_seed", "_law_handed", "_law_found", "_law_name", "_law_turn", "_law_words_here", "_law_bits_here"] ["_law_formula", "_law_widths", "_law_seed"] (defScope s_law_held) := ⟨rfl, rfl, rfl, by decide +kernel, rfl, by decide +kernel, by decide +kernel⟩
abbrev s_law_drawn : Stmt := topS 58
theorem sc_law_drawn : FnScope ["_law_names_here", "_law_seed", "_law_size", "_law_power", "_law_k", "_law_wide_here", "_law_way", "_law_square"] ["_law_names_here", "_law_seed", "_law_size"] (defScope s_law_drawn) := ⟨rfl, rfl, rfl, by decide +kernel, rfl, by decide +kernel, by decide +kernel⟩
abbrev s_law : Stmt := topS 59
theorem sc_law : FnScope ["_law_script", "_law_seed", "_law_names_here", "_law_size", "_law_formula", "_law_widths", "_law_lacking"] ["_law_script"] (defScope s_law) := ⟨rfl, rfl, rfl, by decide +kernel, rfl, by decide +kernel, by decide +kernel⟩

structure Top (K : PySem.W.Frag) (mg : Str → Option Value) where
  a_Splits__init : Addr
  d_Splits__init : FuncData
  f_Splits__init : Fun K "__init__" "Splits.__init__" s_Splits__init a_Splits__init d_Splits__init
  b_Splits__init : Binds K d_Splits__init ["self", "numbers"] []
  a_Splits_part : Addr
  d_Splits_part : FuncData
  f_Splits_part : Fun K "part" "Splits.part" s_Splits_part a_Splits_part d_Splits_part
  b_Splits_part : Binds K d_Splits_part ["self", "low", "high"] []
  a_joined : Addr
  d_joined : FuncData
  f_joined : Fun K "joined" "joined" s_joined a_joined d_joined
  b_joined : Binds K d_joined ["sheet", "high", "low"] []
  g_joined : mg "joined" = some (.ref a_joined)
  a_stretch : Addr
  d_stretch : FuncData
  f_stretch : Fun K "stretch" "stretch" s_stretch a_stretch d_stretch
  b_stretch : Binds K d_stretch ["sheet", "pairs", "low", "high", "splits"] []
  g_stretch : mg "stretch" = some (.ref a_stretch)
  a_prefixes : Addr
  d_prefixes : FuncData
  f_prefixes : Fun K "prefixes" "prefixes" s_prefixes a_prefixes d_prefixes
  b_prefixes : Binds K d_prefixes ["sheet", "pairs", "splits"] []
  g_prefixes : mg "prefixes" = some (.ref a_prefixes)
  a_summed : Addr
  d_summed : FuncData
  f_summed : Fun K "summed" "summed" s_summed a_summed d_summed
  b_summed : Binds K d_summed ["sheet", "heap", "splits"] []
  g_summed : mg "summed" = some (.ref a_summed)
  a_span_of_width : Addr
  d_span_of_width : FuncData
  f_span_of_width : Fun K "span_of_width" "span_of_width" s_span_of_width a_span_of_width d_span_of_width
  b_span_of_width : Binds K d_span_of_width ["width"] []
  g_span_of_width : mg "span_of_width" = some (.ref a_span_of_width)
  a_room_of : Addr
  d_room_of : FuncData
  f_room_of : Fun K "room_of" "room_of" s_room_of a_room_of d_room_of
  b_room_of : Binds K d_room_of ["span"] []
  g_room_of : mg "room_of" = some (.ref a_room_of)
  a_span_of : Addr
  d_span_of : FuncData
  f_span_of : Fun K "span_of" "span_of" s_span_of a_span_of d_span_of
  b_span_of : Binds K d_span_of ["formula", "widths"] []
  g_span_of : mg "span_of" = some (.ref a_span_of)
  a_parts_of : Addr
  d_parts_of : FuncData
  f_parts_of : Fun K "parts_of" "parts_of" s_parts_of a_parts_of d_parts_of
  b_parts_of : Binds K d_parts_of ["formula"] []
  g_parts_of : mg "parts_of" = some (.ref a_parts_of)
  a_Heap__init : Addr
  d_Heap__init : FuncData
  f_Heap__init : Fun K "__init__" "Heap.__init__" s_Heap__init a_Heap__init d_Heap__init
  b_Heap__init : Binds K d_Heap__init ["self", "many"] []
  a_Heap_put : Addr
  d_Heap_put : FuncData
  f_Heap_put : Fun K "put" "Heap.put" s_Heap_put a_Heap_put d_Heap_put
  b_Heap_put : Binds K d_Heap_put ["self", "column", "wire"] []
  a_Heap_heights : Addr
  d_Heap_heights : FuncData
  f_Heap_heights : Fun K "heights" "Heap.heights" s_Heap_heights a_Heap_heights d_Heap_heights
  b_Heap_heights : Binds K d_Heap_heights ["self"] []
  a_Heap_column : Addr
  d_Heap_column : FuncData
  f_Heap_column : Fun K "column" "Heap.column" s_Heap_column a_Heap_column d_Heap_column
  b_Heap_column : Binds K d_Heap_column ["self", "k"] []
  a_Heap_press : Addr
  d_Heap_press : FuncData
  f_Heap_press : Fun K "press" "Heap.press" s_Heap_press a_Heap_press d_Heap_press
  b_Heap_press : Binds K d_Heap_press ["self", "sheet", "k"] []
  a_high_columns : Addr
  d_high_columns : FuncData
  f_high_columns : Fun K "high_columns" "high_columns" s_high_columns a_high_columns d_high_columns
  b_high_columns : Binds K d_high_columns ["heap"] []
  g_high_columns : mg "high_columns" = some (.ref a_high_columns)
  a_press_by_order : Addr
  d_press_by_order : FuncData
  f_press_by_order : Fun K "press_by_order" "press_by_order" s_press_by_order a_press_by_order d_press_by_order
  b_press_by_order : Binds K d_press_by_order ["sheet", "heap", "order"] []
  g_press_by_order : mg "press_by_order" = some (.ref a_press_by_order)
  a_press_by_rounds : Addr
  d_press_by_rounds : FuncData
  f_press_by_rounds : Fun K "press_by_rounds" "press_by_rounds" s_press_by_rounds a_press_by_rounds d_press_by_rounds
  b_press_by_rounds : Binds K d_press_by_rounds ["sheet", "heap"] []
  g_press_by_rounds : mg "press_by_rounds" = some (.ref a_press_by_rounds)
  a_Sheet__init : Addr
  d_Sheet__init : FuncData
  f_Sheet__init : Fun K "__init__" "Sheet.__init__" s_Sheet__init a_Sheet__init d_Sheet__init
  b_Sheet__init : Binds K d_Sheet__init ["self"] []
  a_Sheet_add : Addr
  d_Sheet_add : FuncData
  f_Sheet_add : Fun K "add" "Sheet.add" s_Sheet_add a_Sheet_add d_Sheet_add
  b_Sheet_add : Binds K d_Sheet_add ["self", "row"] []
  a_Sheet_rows_now : Addr
  d_Sheet_rows_now : FuncData
  f_Sheet_rows_now : Fun K "rows_now" "Sheet.rows_now" s_Sheet_rows_now a_Sheet_rows_now d_Sheet_rows_now
  b_Sheet_rows_now : Binds K d_Sheet_rows_now ["self"] []
  a_Circuit__init : Addr
  d_Circuit__init : FuncData
  f_Circuit__init : Fun K "__init__" "Circuit.__init__" s_Circuit__init a_Circuit__init d_Circuit__init
  b_Circuit__init : Binds K d_Circuit__init ["self", "rows", "outs", "below"] []
  a_Plan__init : Addr
  d_Plan__init : FuncData
  f_Plan__init : Fun K "__init__" "Plan.__init__" s_Plan__init a_Plan__init d_Plan__init
  b_Plan__init : Binds K d_Plan__init ["self", "widths", "order", "splits"] []
  a_Plan_finished : Addr
  d_Plan_finished : FuncData
  f_Plan_finished : Fun K "finished" "Plan.finished" s_Plan_finished a_Plan_finished d_Plan_finished
  b_Plan_finished : Binds K d_Plan_finished ["self", "heap"] []
  a_apart : Addr
  d_apart : FuncData
  f_apart : Fun K "apart" "apart" s_apart a_apart d_apart
  b_apart : Binds K d_apart ["formula", "sign"] []
  g_apart : mg "apart" = some (.ref a_apart)
  a_name_dots : Addr
  d_name_dots : FuncData
  f_name_dots : Fun K "name_dots" "name_dots" s_name_dots a_name_dots d_name_dots
  b_name_dots : Binds K d_name_dots ["plan", "name"] []
  g_name_dots : mg "name_dots" = some (.ref a_name_dots)
  a_word_dots : Addr
  d_word_dots : FuncData
  f_word_dots : Fun K "word_dots" "word_dots" s_word_dots a_word_dots d_word_dots
  b_word_dots : Binds K d_word_dots ["plan", "formula"] []
  g_word_dots : mg "word_dots" = some (.ref a_word_dots)
  a_part_dots : Addr
  d_part_dots : FuncData
  f_part_dots : Fun K "part_dots" "part_dots" s_part_dots a_part_dots d_part_dots
  b_part_dots : Binds K d_part_dots ["plan", "formula", "many"] []
  g_part_dots : mg "part_dots" = some (.ref a_part_dots)
  a_bits_made : Addr
  d_bits_made : FuncData
  f_bits_made : Fun K "bits_made" "bits_made" s_bits_made a_bits_made d_bits_made
  b_bits_made : Binds K d_bits_made ["plan", "formula"] []
  g_bits_made : mg "bits_made" = some (.ref a_bits_made)
  a_look : Addr
  d_look : FuncData
  f_look : Fun K "look" "look" s_look a_look d_look
  b_look : Binds K d_look ["formula", "widths"] []
  g_look : mg "look" = some (.ref a_look)
  a_circuit_of : Addr
  d_circuit_of : FuncData
  f_circuit_of : FunD K "circuit_of" "circuit_of" (defArgs s_circuit_of) (defBody s_circuit_of) (defScope s_circuit_of) [V.non, V.non] [] a_circuit_of d_circuit_of
  b_circuit_of : Binds K d_circuit_of ["formula", "widths", "order", "splits"] []
  b1_circuit_of : Binds K d_circuit_of ["formula", "widths", "order", "splits"] [Value.none]
  b2_circuit_of : Binds K d_circuit_of ["formula", "widths", "order", "splits"] [Value.none, Value.none]
  g_circuit_of : mg "circuit_of" = some (.ref a_circuit_of)
  a_law_mixed : Addr
  d_law_mixed : FuncData
  f_law_mixed : Fun K "_law_mixed" "_law_mixed" s_law_mixed a_law_mixed d_law_mixed
  b_law_mixed : Binds K d_law_mixed ["_law_cell", "_law_k"] []
  g_law_mixed : mg "_law_mixed" = some (.ref a_law_mixed)
  a_law_whole : Addr
  d_law_whole : FuncData
  f_law_whole : Fun K "_law_whole" "_law_whole" s_law_whole a_law_whole d_law_whole
  b_law_whole : Binds K d_law_whole ["_law_found"] []
  g_law_whole : mg "_law_whole" = some (.ref a_law_whole)
  a_law_names : Addr
  d_law_names : FuncData
  f_law_names : Fun K "_law_names" "_law_names" s_law_names a_law_names d_law_names
  b_law_names : Binds K d_law_names ["_law_cell"] []
  g_law_names : mg "_law_names" = some (.ref a_law_names)
  a_law_worth : Addr
  d_law_worth : FuncData
  f_law_worth : Fun K "_law_worth" "_law_worth" s_law_worth a_law_worth d_law_worth
  b_law_worth : Binds K d_law_worth ["_law_formula", "_law_words_here"] []
  g_law_worth : mg "_law_worth" = some (.ref a_law_worth)
  a_law_ends : Addr
  d_law_ends : FuncData
  f_law_ends : Fun K "_law_ends" "_law_ends" s_law_ends a_law_ends d_law_ends
  b_law_ends : Binds K d_law_ends ["_law_width"] []
  g_law_ends : mg "_law_ends" = some (.ref a_law_ends)
  a_law_span : Addr
  d_law_span : FuncData
  f_law_span : Fun K "_law_span" "_law_span" s_law_span a_law_span d_law_span
  b_law_span : Binds K d_law_span ["_law_formula", "_law_widths"] []
  g_law_span : mg "_law_span" = some (.ref a_law_span)
  a_law_room : Addr
  d_law_room : FuncData
  f_law_room : Fun K "_law_room" "_law_room" s_law_room a_law_room d_law_room
  b_law_room : Binds K d_law_room ["_law_span_here"] []
  g_law_room : mg "_law_room" = some (.ref a_law_room)
  a_law_wide : Addr
  d_law_wide : FuncData
  f_law_wide : Fun K "_law_wide" "_law_wide" s_law_wide a_law_wide d_law_wide
  b_law_wide : Binds K d_law_wide ["_law_formula", "_law_widths"] []
  g_law_wide : mg "_law_wide" = some (.ref a_law_wide)
  a_law_bits : Addr
  d_law_bits : FuncData
  f_law_bits : Fun K "_law_bits" "_law_bits" s_law_bits a_law_bits d_law_bits
  b_law_bits : Binds K d_law_bits ["_law_rows", "_law_words_here"] []
  g_law_bits : mg "_law_bits" = some (.ref a_law_bits)
  a_law_gate : Addr
  d_law_gate : FuncData
  f_law_gate : Fun K "_law_gate" "_law_gate" s_law_gate a_law_gate d_law_gate
  b_law_gate : Binds K d_law_gate ["_law_row", "_law_at"] []
  g_law_gate : mg "_law_gate" = some (.ref a_law_gate)
  a_law_good : Addr
  d_law_good : FuncData
  f_law_good : Fun K "_law_good" "_law_good" s_law_good a_law_good d_law_good
  b_law_good : Binds K d_law_good ["_law_rows", "_law_names_here"] []
  g_law_good : mg "_law_good" = some (.ref a_law_good)
  a_law_names_of : Addr
  d_law_names_of : FuncData
  f_law_names_of : Fun K "_law_names_of" "_law_names_of" s_law_names_of a_law_names_of d_law_names_of
  b_law_names_of : Binds K d_law_names_of ["_law_formula"] []
  g_law_names_of : mg "_law_names_of" = some (.ref a_law_names_of)
  a_law_formed : Addr
  d_law_formed : FuncData
  f_law_formed : Fun K "_law_formed" "_law_formed" s_law_formed a_law_formed d_law_formed
  b_law_formed : Binds K d_law_formed ["_law_found", "_law_formula", "_law_widths"] []
  g_law_formed : mg "_law_formed" = some (.ref a_law_formed)
  a_law_words : Addr
  d_law_words : FuncData
  f_law_words : Fun K "_law_words" "_law_words" s_law_words a_law_words d_law_words
  b_law_words : Binds K d_law_words ["_law_widths", "_law_seed", "_law_turn"] []
  g_law_words : mg "_law_words" = some (.ref a_law_words)
  a_law_number : Addr
  d_law_number : FuncData
  f_law_number : Fun K "_law_number" "_law_number" s_law_number a_law_number d_law_number
  b_law_number : Binds K d_law_number ["_law_bits_here", "_law_outs", "_law_below"] []
  g_law_number : mg "_law_number" = some (.ref a_law_number)
  a_law_asked : Addr
  d_law_asked : FuncData
  f_law_asked : Fun K "_law_asked" "_law_asked" s_law_asked a_law_asked d_law_asked
  b_law_asked : Binds K d_law_asked ["_law_formula", "_law_widths"] []
  g_law_asked : mg "_law_asked" = some (.ref a_law_asked)
  a_law_held : Addr
  d_law_held : FuncData
  f_law_held : Fun K "_law_held" "_law_held" s_law_held a_law_held d_law_held
  b_law_held : Binds K d_law_held ["_law_formula", "_law_widths", "_law_seed"] []
  g_law_held : mg "_law_held" = some (.ref a_law_held)
  a_law_drawn : Addr
  d_law_drawn : FuncData
  f_law_drawn : Fun K "_law_drawn" "_law_drawn" s_law_drawn a_law_drawn d_law_drawn
  b_law_drawn : Binds K d_law_drawn ["_law_names_here", "_law_seed", "_law_size"] []
  g_law_drawn : mg "_law_drawn" = some (.ref a_law_drawn)
  a_law : Addr
  d_law : FuncData
  f_law : Fun K "law" "law" s_law a_law d_law
  b_law : Binds K d_law ["_law_script"] []
  g_law : mg "law" = some (.ref a_law)
  c_PressError : Addr
  gc_PressError : mg "PressError" = some (.ref c_PressError)
  nc_PressError : IsC K "PressError" c_PressError
  kc_PressError : PySem.W.keepIn K (.ref c_PressError) = true
  x_PressError : PySem.W.excIn K c_PressError [.type "ValueError", .type "Exception", .type "BaseException", .type "object"] "ValueError.__new__" = true
  xb_PressError : PySem.W.subIn K (.ref c_PressError) (.type "BaseException") = some true
  xt_PressError : PySem.W.typeIn K (.ref c_PressError) = some (.type "type")
  c_TooFew : Addr
  gc_TooFew : mg "TooFew" = some (.ref c_TooFew)
  nc_TooFew : IsC K "TooFew" c_TooFew
  kc_TooFew : PySem.W.keepIn K (.ref c_TooFew) = true
  x_TooFew : PySem.W.excIn K c_TooFew [.type "ValueError", .type "Exception", .type "BaseException", .type "object"] "ValueError.__new__" = true
  xb_TooFew : PySem.W.subIn K (.ref c_TooFew) (.type "BaseException") = some true
  xt_TooFew : PySem.W.typeIn K (.ref c_TooFew) = some (.type "type")
  c_TooMany : Addr
  gc_TooMany : mg "TooMany" = some (.ref c_TooMany)
  nc_TooMany : IsC K "TooMany" c_TooMany
  kc_TooMany : PySem.W.keepIn K (.ref c_TooMany) = true
  x_TooMany : PySem.W.excIn K c_TooMany [.type "ValueError", .type "Exception", .type "BaseException", .type "object"] "ValueError.__new__" = true
  xb_TooMany : PySem.W.subIn K (.ref c_TooMany) (.type "BaseException") = some true
  xt_TooMany : PySem.W.typeIn K (.ref c_TooMany) = some (.type "type")
  c_TooWide : Addr
  gc_TooWide : mg "TooWide" = some (.ref c_TooWide)
  nc_TooWide : IsC K "TooWide" c_TooWide
  kc_TooWide : PySem.W.keepIn K (.ref c_TooWide) = true
  x_TooWide : PySem.W.excIn K c_TooWide [.type "ValueError", .type "Exception", .type "BaseException", .type "object"] "ValueError.__new__" = true
  xb_TooWide : PySem.W.subIn K (.ref c_TooWide) (.type "BaseException") = some true
  xt_TooWide : PySem.W.typeIn K (.ref c_TooWide) = some (.type "type")
  c_NoFormula : Addr
  gc_NoFormula : mg "NoFormula" = some (.ref c_NoFormula)
  nc_NoFormula : IsC K "NoFormula" c_NoFormula
  kc_NoFormula : PySem.W.keepIn K (.ref c_NoFormula) = true
  x_NoFormula : PySem.W.excIn K c_NoFormula [.type "ValueError", .type "Exception", .type "BaseException", .type "object"] "ValueError.__new__" = true
  xb_NoFormula : PySem.W.subIn K (.ref c_NoFormula) (.type "BaseException") = some true
  xt_NoFormula : PySem.W.typeIn K (.ref c_NoFormula) = some (.type "type")
  c_NoName : Addr
  gc_NoName : mg "NoName" = some (.ref c_NoName)
  nc_NoName : IsC K "NoName" c_NoName
  kc_NoName : PySem.W.keepIn K (.ref c_NoName) = true
  x_NoName : PySem.W.excIn K c_NoName [.type "ValueError", .type "Exception", .type "BaseException", .type "object"] "ValueError.__new__" = true
  xb_NoName : PySem.W.subIn K (.ref c_NoName) (.type "BaseException") = some true
  xt_NoName : PySem.W.typeIn K (.ref c_NoName) = some (.type "type")
  c_NoLine : Addr
  gc_NoLine : mg "NoLine" = some (.ref c_NoLine)
  nc_NoLine : IsC K "NoLine" c_NoLine
  kc_NoLine : PySem.W.keepIn K (.ref c_NoLine) = true
  x_NoLine : PySem.W.excIn K c_NoLine [.type "ValueError", .type "Exception", .type "BaseException", .type "object"] "ValueError.__new__" = true
  xb_NoLine : PySem.W.subIn K (.ref c_NoLine) (.type "BaseException") = some true
  xt_NoLine : PySem.W.typeIn K (.ref c_NoLine) = some (.type "type")
  c_NoCircuit : Addr
  gc_NoCircuit : mg "NoCircuit" = some (.ref c_NoCircuit)
  nc_NoCircuit : IsC K "NoCircuit" c_NoCircuit
  kc_NoCircuit : PySem.W.keepIn K (.ref c_NoCircuit) = true
  x_NoCircuit : PySem.W.excIn K c_NoCircuit [.type "ValueError", .type "Exception", .type "BaseException", .type "object"] "ValueError.__new__" = true
  xb_NoCircuit : PySem.W.subIn K (.ref c_NoCircuit) (.type "BaseException") = some true
  xt_NoCircuit : PySem.W.typeIn K (.ref c_NoCircuit) = some (.type "type")
  c_OutOfWidth : Addr
  gc_OutOfWidth : mg "OutOfWidth" = some (.ref c_OutOfWidth)
  nc_OutOfWidth : IsC K "OutOfWidth" c_OutOfWidth
  kc_OutOfWidth : PySem.W.keepIn K (.ref c_OutOfWidth) = true
  x_OutOfWidth : PySem.W.excIn K c_OutOfWidth [.type "ValueError", .type "Exception", .type "BaseException", .type "object"] "ValueError.__new__" = true
  xb_OutOfWidth : PySem.W.subIn K (.ref c_OutOfWidth) (.type "BaseException") = some true
  xt_OutOfWidth : PySem.W.typeIn K (.ref c_OutOfWidth) = some (.type "type")
  c_Splits : Addr
  gc_Splits : mg "Splits" = some (.ref c_Splits)
  nc_Splits : IsC K "Splits" c_Splits
  kc_Splits : PySem.W.keepIn K (.ref c_Splits) = true
  cl_Splits : Cls K c_Splits
  mk_Splits : Mk K c_Splits a_Splits__init
  m_Splits_part : Meth K c_Splits "part" a_Splits_part
  n_Splits_numbers : NoAttr K c_Splits "numbers"
  n_Splits_at : NoAttr K c_Splits "at"
  c_Heap : Addr
  gc_Heap : mg "Heap" = some (.ref c_Heap)
  nc_Heap : IsC K "Heap" c_Heap
  kc_Heap : PySem.W.keepIn K (.ref c_Heap) = true
  cl_Heap : Cls K c_Heap
  mk_Heap : Mk K c_Heap a_Heap__init
  m_Heap_put : Meth K c_Heap "put" a_Heap_put
  m_Heap_heights : Meth K c_Heap "heights" a_Heap_heights
  m_Heap_column : Meth K c_Heap "column" a_Heap_column
  m_Heap_press : Meth K c_Heap "press" a_Heap_press
  n_Heap_many : NoAttr K c_Heap "many"
  n_Heap_columns : NoAttr K c_Heap "columns"
  c_Sheet : Addr
  gc_Sheet : mg "Sheet" = some (.ref c_Sheet)
  nc_Sheet : IsC K "Sheet" c_Sheet
  kc_Sheet : PySem.W.keepIn K (.ref c_Sheet) = true
  cl_Sheet : Cls K c_Sheet
  mk_Sheet : Mk K c_Sheet a_Sheet__init
  m_Sheet_add : Meth K c_Sheet "add" a_Sheet_add
  m_Sheet_rows_now : Meth K c_Sheet "rows_now" a_Sheet_rows_now
  n_Sheet_rows : NoAttr K c_Sheet "rows"
  c_Circuit : Addr
  gc_Circuit : mg "Circuit" = some (.ref c_Circuit)
  nc_Circuit : IsC K "Circuit" c_Circuit
  kc_Circuit : PySem.W.keepIn K (.ref c_Circuit) = true
  cl_Circuit : Cls K c_Circuit
  mk_Circuit : Mk K c_Circuit a_Circuit__init
  n_Circuit_rows : NoAttr K c_Circuit "rows"
  n_Circuit_outs : NoAttr K c_Circuit "outs"
  n_Circuit_below : NoAttr K c_Circuit "below"
  icl_Circuit : PySem.W.findIn K (.ref c_Circuit) "__class__" = some (some (.builtin "object.__class__"))
  isp_Circuit : PySem.W.specialIn K (.builtin "object.__class__") "__get__" = some (some (.builtin "getset_descriptor.__get__"))
  itk_Circuit : PySem.W.takesIn K (.builtin "object.__class__") = some true
  imr_Circuit : PySem.W.mroIn K c_Circuit (.type "object") = some true
  c_Plan : Addr
  gc_Plan : mg "Plan" = some (.ref c_Plan)
  nc_Plan : IsC K "Plan" c_Plan
  kc_Plan : PySem.W.keepIn K (.ref c_Plan) = true
  cl_Plan : Cls K c_Plan
  mk_Plan : Mk K c_Plan a_Plan__init
  m_Plan_finished : Meth K c_Plan "finished" a_Plan_finished
  n_Plan_sheet : NoAttr K c_Plan "sheet"
  n_Plan_widths : NoAttr K c_Plan "widths"
  n_Plan_order : NoAttr K c_Plan "order"
  n_Plan_splits : NoAttr K c_Plan "splits"
  ehd_PressError : PySem.W.hasDictIn K c_PressError = true
  ehd_TooFew : PySem.W.hasDictIn K c_TooFew = true
  ehd_TooMany : PySem.W.hasDictIn K c_TooMany = true
  ehd_TooWide : PySem.W.hasDictIn K c_TooWide = true
  ega_TooWide : PySem.W.findIn K (.ref c_TooWide) "__getattribute__" = some (some (.builtin "BaseException.__getattribute__"))
  egg_TooWide : PySem.W.findIn K (.ref c_TooWide) "__getattr__" = some none
  ecl_TooWide : PySem.W.findIn K (.ref c_TooWide) "__class__" = some (some (.builtin "object.__class__"))
  esp_TooWide : PySem.W.specialIn K (.builtin "object.__class__") "__get__" = some (some (.builtin "getset_descriptor.__get__"))
  etk_TooWide : PySem.W.takesIn K (.builtin "object.__class__") = some true
  emr_TooWide : PySem.W.mroIn K c_TooWide (.type "object") = some true
  sv_TooWide : PySem.W.subIn K (.ref c_TooWide) (.type "ValueError") = some true
  kv_TooWide : PySem.W.kitOne K (.ref c_TooWide) (.type "ValueError") = some true
  s_TooWide_PressError : PySem.W.subIn K (.ref c_TooWide) (.ref c_PressError) = some true
  k_TooWide_PressError : PySem.W.kitOne K (.ref c_TooWide) (.ref c_PressError) = some true
  s_TooWide_TooFew : PySem.W.subIn K (.ref c_TooWide) (.ref c_TooFew) = some false
  k_TooWide_TooFew : PySem.W.kitOne K (.ref c_TooWide) (.ref c_TooFew) = some false
  s_TooWide_TooMany : PySem.W.subIn K (.ref c_TooWide) (.ref c_TooMany) = some false
  k_TooWide_TooMany : PySem.W.kitOne K (.ref c_TooWide) (.ref c_TooMany) = some false
  s_TooWide_TooWide : PySem.W.subIn K (.ref c_TooWide) (.ref c_TooWide) = some true
  k_TooWide_TooWide : PySem.W.kitOne K (.ref c_TooWide) (.ref c_TooWide) = some true
  m_TooWide_TooWide : PySem.W.exmOne K (.ref c_TooWide) (.ref c_TooWide) = some true
  s_TooWide_NoFormula : PySem.W.subIn K (.ref c_TooWide) (.ref c_NoFormula) = some false
  k_TooWide_NoFormula : PySem.W.kitOne K (.ref c_TooWide) (.ref c_NoFormula) = some false
  s_TooWide_NoName : PySem.W.subIn K (.ref c_TooWide) (.ref c_NoName) = some false
  k_TooWide_NoName : PySem.W.kitOne K (.ref c_TooWide) (.ref c_NoName) = some false
  m_TooWide_NoName : PySem.W.exmOne K (.ref c_TooWide) (.ref c_NoName) = some false
  s_TooWide_NoLine : PySem.W.subIn K (.ref c_TooWide) (.ref c_NoLine) = some false
  k_TooWide_NoLine : PySem.W.kitOne K (.ref c_TooWide) (.ref c_NoLine) = some false
  s_TooWide_NoCircuit : PySem.W.subIn K (.ref c_TooWide) (.ref c_NoCircuit) = some false
  k_TooWide_NoCircuit : PySem.W.kitOne K (.ref c_TooWide) (.ref c_NoCircuit) = some false
  s_TooWide_OutOfWidth : PySem.W.subIn K (.ref c_TooWide) (.ref c_OutOfWidth) = some false
  k_TooWide_OutOfWidth : PySem.W.kitOne K (.ref c_TooWide) (.ref c_OutOfWidth) = some false
  ehd_NoFormula : PySem.W.hasDictIn K c_NoFormula = true
  ehd_NoName : PySem.W.hasDictIn K c_NoName = true
  ega_NoName : PySem.W.findIn K (.ref c_NoName) "__getattribute__" = some (some (.builtin "BaseException.__getattribute__"))
  egg_NoName : PySem.W.findIn K (.ref c_NoName) "__getattr__" = some none
  ecl_NoName : PySem.W.findIn K (.ref c_NoName) "__class__" = some (some (.builtin "object.__class__"))
  esp_NoName : PySem.W.specialIn K (.builtin "object.__class__") "__get__" = some (some (.builtin "getset_descriptor.__get__"))
  etk_NoName : PySem.W.takesIn K (.builtin "object.__class__") = some true
  emr_NoName : PySem.W.mroIn K c_NoName (.type "object") = some true
  sv_NoName : PySem.W.subIn K (.ref c_NoName) (.type "ValueError") = some true
  kv_NoName : PySem.W.kitOne K (.ref c_NoName) (.type "ValueError") = some true
  s_NoName_PressError : PySem.W.subIn K (.ref c_NoName) (.ref c_PressError) = some true
  k_NoName_PressError : PySem.W.kitOne K (.ref c_NoName) (.ref c_PressError) = some true
  s_NoName_TooFew : PySem.W.subIn K (.ref c_NoName) (.ref c_TooFew) = some false
  k_NoName_TooFew : PySem.W.kitOne K (.ref c_NoName) (.ref c_TooFew) = some false
  s_NoName_TooMany : PySem.W.subIn K (.ref c_NoName) (.ref c_TooMany) = some false
  k_NoName_TooMany : PySem.W.kitOne K (.ref c_NoName) (.ref c_TooMany) = some false
  s_NoName_TooWide : PySem.W.subIn K (.ref c_NoName) (.ref c_TooWide) = some false
  k_NoName_TooWide : PySem.W.kitOne K (.ref c_NoName) (.ref c_TooWide) = some false
  m_NoName_TooWide : PySem.W.exmOne K (.ref c_NoName) (.ref c_TooWide) = some false
  s_NoName_NoFormula : PySem.W.subIn K (.ref c_NoName) (.ref c_NoFormula) = some false
  k_NoName_NoFormula : PySem.W.kitOne K (.ref c_NoName) (.ref c_NoFormula) = some false
  s_NoName_NoName : PySem.W.subIn K (.ref c_NoName) (.ref c_NoName) = some true
  k_NoName_NoName : PySem.W.kitOne K (.ref c_NoName) (.ref c_NoName) = some true
  m_NoName_NoName : PySem.W.exmOne K (.ref c_NoName) (.ref c_NoName) = some true
  s_NoName_NoLine : PySem.W.subIn K (.ref c_NoName) (.ref c_NoLine) = some false
  k_NoName_NoLine : PySem.W.kitOne K (.ref c_NoName) (.ref c_NoLine) = some false
  s_NoName_NoCircuit : PySem.W.subIn K (.ref c_NoName) (.ref c_NoCircuit) = some false
  k_NoName_NoCircuit : PySem.W.kitOne K (.ref c_NoName) (.ref c_NoCircuit) = some false
  s_NoName_OutOfWidth : PySem.W.subIn K (.ref c_NoName) (.ref c_OutOfWidth) = some false
  k_NoName_OutOfWidth : PySem.W.kitOne K (.ref c_NoName) (.ref c_OutOfWidth) = some false
  ehd_NoLine : PySem.W.hasDictIn K c_NoLine = true
  ehd_NoCircuit : PySem.W.hasDictIn K c_NoCircuit = true
  ehd_OutOfWidth : PySem.W.hasDictIn K c_OutOfWidth = true
  z_abs : mg "abs" = none
  z_bool : mg "bool" = none
  z_enumerate : mg "enumerate" = none
  z_int : mg "int" = none
  z_isinstance : mg "isinstance" = none
  z_len : mg "len" = none
  z_list : mg "list" = none
  z_max : mg "max" = none
  z_min : mg "min" = none
  z_range : mg "range" = none
  z_str : mg "str" = none
  z_sum : mg "sum" = none
  z_tuple : mg "tuple" = none
  k_ROOM : Tok
  g_ROOM : mg "ROOM" = some (Value.int 48 k_ROOM)

section
variable {P : Program} {w : World} {K : PySem.W.Frag} {mg : Str → Option Value} {base : Heap}


/-! the walk: one step a construct -/
open PySem PySem.Spec PyProof.Rows L2 Dpr
local macro_rules | `(tactic| walk_at "hp") => `(tactic| first
  | assumption
  | exact upd_same
  | (apply hp_upd; assumption; walk_at "hp")
  | (apply hp_upd2; assumption; walk_at "hp")
  | (apply same_at; assumption; walk_at "hp"))
local macro_rules | `(tactic| walk_at "sq") => `(tactic| first
  | assumption
  | exact SqL.of (by assumption)
  | exact SqL.of upd_same
  | exact SqT.of (by assumption)
  | (apply SqL.of; walk_at "hp")
  | (apply SqT.of; walk_at "hp")
  | (apply Same.seq; assumption; walk_at "sq")
  | (apply same_tup; assumption; walk_at "sq"))
local macro_rules | `(tactic| walk_at "sz") => `(tactic| first
  | omega
  | (simp only [List.length_map, List.length_append, List.length_cons, List.length_nil, List.length_range, List.length_replicate, List.length_take]; omega))
local macro_rules | `(tactic| walk_at "w1") => `(tactic| first
  | with_reducible refine w_seq ?_
  | with_reducible refine w_asg ?_
  | ((with_reducible apply w_var); rfl)
  | with_reducible refine w_c ?_
  | with_reducible refine w_op ?_
  | with_reducible refine w_un ?_
  | with_reducible refine w_I0 ?_
  | with_reducible refine w_U ?_
  | with_reducible refine w_bl ?_
  | with_reducible refine w_test ?_
  | with_reducible refine w_tB ?_
  | ((with_reducible refine w_eq ?_ ?_); rfl)
  | ((with_reducible refine w_ne ?_ ?_); rfl)
  | with_reducible refine w_if ?_
  | with_reducible refine w_cons ?_
  | with_reducible refine w_nil ?_
  | with_reducible refine w_itT ?_
  | with_reducible refine w_itF ?_
  | ((with_reducible refine w_itS1 ?_ ?_); decide +kernel)
  | ((with_reducible refine w_itS0 ?_ ?_); decide +kernel)
  | ((with_reducible refine w_itN1 ?_ ?_); decide +kernel)
  | ((with_reducible refine w_itN0 ?_ ?_); decide +kernel)
  | with_reducible refine w_dget ?_
  | ((with_reducible apply w_DG1); (walk_at "hp"); assumption)
  | ((with_reducible refine w_itC ?_ ?_); (first | decide +kernel | (simp only [List.length_cons, List.length_nil]; decide +kernel)))
  | ((with_reducible refine w_itD ?_ ?_); (first | decide +kernel | (simp only [List.length_cons, List.length_nil]; decide +kernel)))
  | with_reducible refine w_asgG ?_
  | with_reducible refine w_drop ?_
  | with_reducible refine w_ret ?_
  | with_reducible refine w_retN ?_
  | with_reducible refine w_next ?_
  | with_reducible refine w_cont ?_
  | with_reducible refine w_brk ?_
  | ((with_reducible apply w_aug); rfl)
  | with_reducible refine w_ipI ?_
  | with_reducible refine w_chain ?_
  | with_reducible refine w_and ?_
  | with_reducible refine w_or ?_
  | with_reducible refine w_not ?_
  | with_reducible refine w_andV ?_
  | with_reducible refine w_orV ?_
  | with_reducible refine w_notV ?_
  | with_reducible refine w_ifx ?_
  | with_reducible refine w_call ?_
  | with_reducible refine w_cb ?_
  | ((with_reducible refine w_for ?_); (try simp only [List.set_cons_zero, List.set_cons_succ]))
  | ((with_reducible refine w_lc ?_); (try simp only [List.set_cons_zero, List.set_cons_succ]))
  | with_reducible refine w_bm ?_
  | with_reducible refine w_bm0 ?_
  | ((with_reducible apply w_BML); (walk_at "hp"))
  | ((with_reducible apply w_BM0L); (walk_at "hp"))
  | ((with_reducible apply w_append); (walk_at "hp"); (try (walk_at "sz")))
  | ((with_reducible apply w_gTup); (walk_at "sq"); rfl)
  | with_reducible refine w_gCons ?_
  | with_reducible refine w_gNil ?_
  | with_reducible refine w_gName ?_
  | with_reducible refine w_iE ?_
  | ((with_reducible apply w_IE1); (walk_at "sq"))
  | with_reducible refine w_intB ?_
  | with_reducible refine w_tm1 ?_
  | with_reducible refine w_M11 ?_
  | ((with_reducible apply w_inL); (walk_at "sq"); rfl; rfl)
  | ((with_reducible apply w_inT); (walk_at "sq"); rfl; rfl)
  | ((with_reducible apply w_niL); (walk_at "sq"); rfl; rfl)
  | ((with_reducible apply w_niT); (walk_at "sq"); rfl; rfl)
  | with_reducible refine w_bit1 ?_
  | with_reducible refine w_shrN ?_
  | ((with_reducible refine w_shlN ?_ ?_); omega)
  | ((with_reducible refine w_divP ?_ ?_); omega)
  | with_reducible refine w_iL ?_
  | with_reducible refine w_iT ?_
  | with_reducible refine w_iR1 ?_
  | with_reducible refine w_iR2 ?_
  | ((with_reducible apply w_IL1); (walk_at "sq"))
  | ((with_reducible apply w_IT1); (walk_at "sq"))
  | ((with_reducible refine w_IR1 ?_ ?_); (walk_at "sz"))
  | ((with_reducible refine w_IR2 ?_ ?_); (walk_at "sz"))
  | ((with_reducible apply w_sl); (walk_at "sq"); intro _ _ _ _ _)
  | with_reducible refine w_tsl ?_
  | with_reducible refine w_tnp ?_
  | with_reducible refine w_tpt ?_
  | with_reducible refine w_pt ?_
  | ((with_reducible apply w_cat); (walk_at "hp"); (walk_at "hp"); (try (walk_at "sz")))
  | ((with_reducible apply w_listL); (walk_at "sq"); intro _ _ _ _ _)
  | ((with_reducible apply w_listT); (walk_at "sq"); intro _ _ _ _ _)
  | with_reducible refine w_tbits ?_
  | with_reducible refine w_bits ?_
  | with_reducible refine w_tup ?_
  | with_reducible refine w_lst ?_
  | ((with_reducible refine w_alT ?_ ?_); (exact sz_le rfl); intro _ _ _ _ _)
  | ((with_reducible refine w_alL ?_ ?_); (exact sz_le rfl); intro _ _ _ _ _)
  | with_reducible refine w_abs ?_
  | with_reducible refine w_max2 ?_
  | with_reducible refine w_min2 ?_
  | ((with_reducible refine w_I ?_ ?_); (first | exact ⟨by decide, by decide⟩ | (show (_ : Int) < _; decide) | exact p2pos _ | exact ⟨by omega, by omega, by decide⟩ | exact ⟨by omega, by omega⟩ | (show (_ : Int) < _; omega) | (show (_ : Int) ≤ _; omega) | exact .of_left (by decide) | exact .of_right (by decide) | exact mul_sm (by omega) | exact mul_sm2 (by omega) | exact mul_cc (by assumption) (by assumption) | exact mul_ok2 (n := 250) (by assumption) (by decide) (by decide)))
  | ((with_reducible apply w_ixL); (walk_at "sq"); rfl)
  | ((with_reducible apply w_ixT); (walk_at "sq"); rfl)
  | ((with_reducible apply w_lenL); (walk_at "sq"))
  | ((with_reducible apply w_lenT); (walk_at "sq"))
  | (with_reducible refine w_isi (TyX.base (TyOf.int _)) (kit_ii _) ?_)
  | (with_reducible refine w_isi (TyX.base (TyOf.int _)) (kit_ib _) ?_)
  | (with_reducible refine w_isi (TyX.base (TyOf.bl _)) (kit_bi _) ?_)
  | (with_reducible refine w_isi (TyX.base (TyOf.bl _)) (kit_bb _) ?_)
  | (with_reducible refine w_isi (TyX.base (TyOf.str _)) (kit_ss _) ?_)
  | ((with_reducible apply w_isiT); (walk_at "hp"))
  | ((with_reducible apply w_isiL); (walk_at "hp")))
local macro_rules | `(tactic| walk_at "split") => `(tactic| first
  | ((with_reducible refine w_itS ?_ ?_) <;> intro _)
  | ((with_reducible refine w_itSN ?_ ?_) <;> intro _)
  | ((with_reducible refine w_itI ?_ ?_) <;> intro _)
  | ((with_reducible refine w_itN ?_ ?_) <;> intro _)
  | ((with_reducible refine w_itn ?_ ?_) <;> intro _)
  | ((with_reducible refine w_itd ?_ ?_) <;> intro _)
  | ((with_reducible refine w_itb ?_ ?_) <;> intro _))
local macro_rules | `(tactic| walk_at "wk") => `(tactic| repeat' (walk_at "w1"))
local macro_rules | `(tactic| walk_at "ws") => `(tactic| repeat' (first | (walk_at "w1") | ((walk_at "split") <;> (try (exfalso; omega)))))

local macro_rules | `(tactic| walk_at "w1") => `(tactic| first
  | ((with_reducible refine w_disp ?_); intro _ _ _ _ _)
  | with_reducible refine w_pairs ?_
  | with_reducible refine w_pairs0 ?_
  | ((with_reducible apply w_dictD); (walk_at "hp"); intro _ _ _ _ _))

local macro_rules | `(tactic| walk_at "w1") => `(tactic| first
  | with_reducible refine w_dput ?_
  | ((with_reducible apply w_DPutB); (walk_at "hp"); (walk_at "sz"))
  | ((with_reducible apply w_insert); (walk_at "hp"); (walk_at "sz"); omega)
  | ((with_reducible refine w_dnewK ?_); intro _ _ _ _ _)
  | with_reducible refine w_revR ?_
  | with_reducible refine w_rg1 ?_
  | with_reducible refine w_RG1 ?_
  | ((with_reducible refine w_RevB ?_ ?_); omega))

local macro_rules | `(tactic| walk_at "w1") => `(tactic| first
  | ((with_reducible apply w_slT1); (walk_at "sq"); intro _ _ _ _ _))

local macro_rules | `(tactic| walk_at "w1") => `(tactic| first
  | with_reducible refine w_isNo1 ?_
  | with_reducible refine w_isNo0 ?_
  | with_reducible refine w_notNo1 ?_
  | with_reducible refine w_notNo0 ?_)

local macro_rules | `(tactic| walk_at "lk") => `(tactic| first
  | exact lookup_hd
  | exact lookup_no
  | ((refine lookup_tl ?_ ?_); decide +kernel; (walk_at "lk")))
local macro_rules | `(tactic| walk_at "w1") => `(tactic| first
  | with_reducible refine w_fld ?_
  | ((with_reducible apply w_FldB); (walk_at "hp"); assumption; assumption; (walk_at "lk"))
  | with_reducible refine w_sfld ?_
  | ((with_reducible apply w_SFldB); (walk_at "hp"); assumption; assumption; exact Nat.le_of_ble_eq_true rfl)
  | with_reducible refine w_meth ?_
  | ((with_reducible apply w_MethB); (walk_at "hp"); (walk_at "lk")))

local macro_rules | `(tactic| walk_at "w1") => `(tactic| first
  | with_reducible refine w_dnin ?_
  | with_reducible refine w_mk ?_
  | ((with_reducible refine w_MkB ?_); intro _ _ _ _ _ _ _)
  | with_reducible refine w_notNoI ?_
  | with_reducible refine w_din ?_
  | ((with_reducible refine w_dnewT ?_); intro _ _ _ _ _)
  | with_reducible refine w_gSub ?_
  | ((with_reducible apply w_tupL); (walk_at "sq"); intro _ _ _ _ _))

local macro_rules | `(tactic| walk_at "w1") => `(tactic| first
  | with_reducible refine w_methS ?_
  | ((with_reducible apply w_MethSB); (walk_at "hp"); (walk_at "lk"))
  | with_reducible refine w_callS ?_)

local macro_rules | `(tactic| walk_at "w1") => `(tactic| first
  | ((with_reducible apply w_BM0D); (walk_at "hp"))
  | ((with_reducible apply w_copyD); (walk_at "hp"); intro _ _ _ _ _)
  | ((with_reducible refine w_addS ?_ ?_); omega))

def sp_law_whole (K : PySem.W.Frag) : Sp := fun vs H Q _ => ∃ i : Int, vs = [.int i] ∧ Q (.bl true) H
theorem ok_law_whole (T : Top K mg) : FnOk P w K mg base CX0 1 T.a_law_whole T.d_law_whole ["_law_found"] (sp_law_whole K) := by
  refine T.f_law_whole.ok sc_law_whole (fun vs H Q E h => ?_) (fun cdv A outer s H vs Q E hr h => ?_)
  · obtain ⟨i, rfl, _⟩ := h
    rfl
  obtain ⟨i, rfl, h⟩ := h
  refine ⟨_, (pss_one (ps_ret (pe_and (pe_callB (c_isiK K) (by rfl) T.z_isinstance (by decide +kernel) (pa_cons (pv 0) (pa_cons (pe_bltn (v := .ty "int") (by rfl) T.z_int (by decide +kernel) rfl) pa_nil))) (pe_one (pe_not (pe_callB (c_isiK K) (by rfl) T.z_isinstance (by decide +kernel) (pa_cons (pv 0) (pa_cons (pe_bltn (v := .ty "bool") (by rfl) T.z_bool (by decide +kernel) rfl) pa_nil)))))))), ?_⟩
  try dsimp only [cxOf, Cx.nox, Cx.wish]
  simp only [L2.start, List.map_cons, List.map_nil, List.length_cons, List.length_nil, Nat.reduceAdd, Nat.reduceSub, List.replicate_succ, List.replicate_zero, List.cons_append, List.nil_append]
  walk_at "wk"
  exact h
theorem use_whole {i : Int} {H : Hp} {Q : VK} {E : XK} (h : Q (.bl true) H) : sp_law_whole K ([.int i] ++ []) H Q E := ⟨i, rfl, h⟩
local macro_rules | `(tactic| walk_at "w1") => `(tactic| with_reducible refine use_whole ?_)

/-! lengths of short lists and tuples -/
theorem w_lenT2 {K : PySem.W.Frag} {H : Hp} {Q : VK} {p : Addr} {x y : V} (h : SqT K H p [x, y]) (q : Q (.int 2) H) : rLen K [.ref p] H Q := ⟨p, _, rfl, .inr h, q⟩
theorem w_lenT3 {K : PySem.W.Frag} {H : Hp} {Q : VK} {p : Addr} {x y z : V} (h : SqT K H p [x, y, z]) (q : Q (.int 3) H) : rLen K [.ref p] H Q := ⟨p, _, rfl, .inr h, q⟩
local macro_rules | `(tactic| walk_at "w1") => `(tactic| first
  | ((with_reducible apply w_lenT2); (walk_at "sq"))
  | ((with_reducible apply w_lenT3); (walk_at "sq")))
theorem w_lenL0 {K : PySem.W.Frag} {H : Hp} {Q : VK} {p : Addr} (h : SqL K H p []) (q : Q (.int 0) H) : rLen K [.ref p] H Q := ⟨p, _, rfl, .inl h, q⟩
theorem w_lenL1 {K : PySem.W.Frag} {H : Hp} {Q : VK} {p : Addr} {x : V} (h : SqL K H p [x]) (q : Q (.int 1) H) : rLen K [.ref p] H Q := ⟨p, _, rfl, .inl h, q⟩
theorem w_lenL2 {K : PySem.W.Frag} {H : Hp} {Q : VK} {p : Addr} {x y : V} (h : SqL K H p [x, y]) (q : Q (.int 2) H) : rLen K [.ref p] H Q := ⟨p, _, rfl, .inl h, q⟩
local macro_rules | `(tactic| walk_at "w1") => `(tactic| first
  | ((with_reducible apply w_lenL0); (walk_at "sq"))
  | ((with_reducible apply w_lenL1); (walk_at "sq"))
  | ((with_reducible apply w_lenL2); (walk_at "sq")))

local macro_rules | `(tactic| walk_at "w1") => `(tactic| first
  | ((with_reducible refine w_lenS ?_ ?_); (walk_at "sz"))
  | ((with_reducible refine w_strI ?_ ?_); (exact small_abs (by omega))))
local macro_rules | `(tactic| walk_at "w1") => `(tactic| first
  | with_reducible refine w_strAS ?_
  | ((with_reducible refine w_strAI ?_ ?_); (exact small_abs (by omega))))

/-! numbers drawn from a cell -/
def mixF (c k : Int) : Int :=
  if 10 ^ Int.toNat 40 ≤ c then (c - 10 ^ Int.toNat 40) / (1 * 2 ^ (100 * (k % 60)).toNat) % (1 * 2 ^ Int.toNat 100)
  else ((c * c + 3 * c + 7919 * k + 1) * 48271 % 2147483629 * ((c * c + 3 * c + 7919 * k + 1) * 48271 % 2147483629) + 7) % 2147483587
theorem mixF_bd (c k : Int) : 0 ≤ mixF c k ∧ mixF c k < 2 ^ 100 := by
  unfold mixF
  have e : (1 : Int) * 2 ^ Int.toNat 100 = 2 ^ 100 := by decide
  split
  · rw [e]
    exact ⟨Int.emod_nonneg _ (by decide), Int.emod_lt_of_pos _ (by decide)⟩
  · have h1 := Int.emod_nonneg ((c * c + 3 * c + 7919 * k + 1) * 48271 % 2147483629 * ((c * c + 3 * c + 7919 * k + 1) * 48271 % 2147483629) + 7) (show (2147483587 : Int) ≠ 0 by decide)
    have h2 := Int.emod_lt_of_pos ((c * c + 3 * c + 7919 * k + 1) * 48271 % 2147483629 * ((c * c + 3 * c + 7919 * k + 1) * 48271 % 2147483629) + 7) (show (0 : Int) < 2147483587 by decide)
    exact ⟨h1, Int.lt_trans h2 (by decide)⟩
theorem mul_cd {i j : Int} (hi : Builtin.Int.intBits i ≤ 1048600) (hj : Builtin.Int.intBits j ≤ 1048600) : IntMulOk i j :=
  CMulX.ok (show (Builtin.Int.intBits i : Int) + (Builtin.Int.intBits j : Int) ≤ 134217728 by omega)
local macro_rules | `(tactic| walk_at "w1") => `(tactic| ((with_reducible refine w_I ?_ ?_); (exact mul_cd (by assumption) (by assumption))))
def sp_law_mixed (K : PySem.W.Frag) : Sp := fun vs H Q _ => ∃ c k : Int, vs = [.int c, .int k] ∧ Builtin.Int.intBits c ≤ 1048600 ∧ (0 ≤ k ∧ k ≤ 1000000) ∧ Q (.int (mixF c k)) H
theorem ok_law_mixed (T : Top K mg) : FnOk P w K mg base CX0 1 T.a_law_mixed T.d_law_mixed ["_law_cell", "_law_k"] (sp_law_mixed K) := by
  refine T.f_law_mixed.ok sc_law_mixed (fun vs H Q E h => ?_) (fun cdv A outer s H vs Q E hr h => ?_)
  · obtain ⟨c, k, rfl, _⟩ := h
    rfl
  obtain ⟨c, k, rfl, h⟩ := h
  refine ⟨_, (pss_cons (ps_if (pt_cmpR op_ge (pv 0) (pe_op op_pow pe_int pe_int) (nomark _)) (pss_one (ps_ret (pe_op op_mod (pe_op op_fdivW (pe_op op_sub (pv 0) (pe_op op_pow pe_int pe_int)) (pe_op op_shl pe_int (pe_op op_mulI pe_int (pe_op op_mod (pv 1) pe_int)))) (pe_op op_shl pe_int pe_int)))) pss_nil)
      (pss_cons (ps_set (i := 2) sc_law_mixed.nd rfl (.inl rfl) (pe_op op_mod (pe_op op_mulI (pe_op op_add (pe_op op_add (pe_op op_add (pe_op op_mulI (pv 0) (pv 0)) (pe_op op_mulI pe_int (pv 0))) (pe_op op_mulI pe_int (pv 1))) pe_int) pe_int) pe_int))
      (pss_one (ps_ret (pe_op op_mod (pe_op op_add (pe_op op_mulI (pv 2) (pv 2)) pe_int) pe_int))))), ?_⟩
  try dsimp only [cxOf, Cx.nox, Cx.wish]
  simp only [L2.start, List.map_cons, List.map_nil, List.length_cons, List.length_nil, Nat.reduceAdd, Nat.reduceSub, List.replicate_succ, List.replicate_zero, List.cons_append, List.nil_append]
  obtain ⟨hc, hk, h⟩ := h
  walk_at "ws"
  · rename_i hb
    have hp : (0 : Int) < 1 * 2 ^ (100 * (k % 60)).toNat := by
      rw [Int.one_mul]
      exact p2pos _
    refine w_I (wide_div hp (b := 6001) (by rw [abs_pow]; exact Nat.pow_lt_pow_right (by decide) (by omega)) (by decide) (by decide)) ?_
    walk_at "ws"
    have e : mixF c k = (c - 10 ^ Int.toNat 40) / (1 * 2 ^ (100 * (k % 60)).toNat) % (1 * 2 ^ Int.toNat 100) := by rw [mixF, if_pos hb]
    rw [e] at h
    exact h
  · rename_i hb
    have e : mixF c k = ((c * c + 3 * c + 7919 * k + 1) * 48271 % 2147483629 * ((c * c + 3 * c + 7919 * k + 1) * 48271 % 2147483629) + 7) % 2147483587 := by rw [mixF, if_neg hb]
    rw [e] at h
    exact h
theorem use_mixed {c k : Int} {H : Hp} {Q : VK} {E : XK} (hc : Builtin.Int.intBits c ≤ 1048600) (hk : 0 ≤ k ∧ k ≤ 1000000) (h : ∀ v, mixF c k = v → 0 ≤ v → v < 2 ^ 100 → Q (.int v) H) : sp_law_mixed K ([.int c, .int k] ++ []) H Q E :=
  ⟨c, k, rfl, hc, hk, h _ rfl (mixF_bd c k).1 (mixF_bd c k).2⟩
local macro_rules | `(tactic| walk_at "w1") => `(tactic| ((with_reducible refine use_mixed ?_ ?_ ?_); (first | assumption | exact Nat.le_trans (by assumption) (by decide)); omega; intro _ _ _ _))

def sp_Sheet__init (K : PySem.W.Frag) : Sp := fun vs H Q _ => ∃ (s C dx : Addr), vs = [.ref s] ∧ H s = some (.ins C dx []) ∧ IsC K "Sheet" C ∧ ∀ (r : Addr) (H1 : Hp), H r = none → Same H H1 → H1 r = some (.lst []) → Q .non (upd H1 s (.ins C dx [("rows", .ref r)]))
theorem ok_Sheet__init (T : Top K mg) : FnOk P w K mg base CX0 1 T.a_Sheet__init T.d_Sheet__init ["self"] (sp_Sheet__init K) := by
  refine T.f_Sheet__init.ok sc_Sheet__init (fun vs H Q E h => ?_) (fun cdv A outer s H vs Q E hr h => ?_)
  · obtain ⟨s, C, dx, rfl, _⟩ := h
    rfl
  obtain ⟨s, C, dx, rfl, h⟩ := h
  refine ⟨_, (pss_one (ps_fld (pv 0) (pe_lst pa_nil) rfl)), ?_⟩
  try dsimp only [cxOf, Cx.nox, Cx.wish]
  simp only [L2.start, List.map_cons, List.map_nil, List.length_cons, List.length_nil, Nat.reduceAdd, Nat.reduceSub, List.replicate_succ, List.replicate_zero, List.cons_append, List.nil_append]
  obtain ⟨hs, hC, h⟩ := h
  obtain rfl := hC.one T.nc_Sheet
  have c1 := T.cl_Sheet
  have c2 := T.n_Sheet_rows
  walk_at "ws"
  rename_i r H1 n1 s1 e1
  exact h r H1 n1 s1 e1
def sp_Sheet_add (K : PySem.W.Frag) : Sp := fun vs H Q _ => ∃ (s r : Addr) (xs : List V) (y : V), vs = [.ref s, y] ∧ SheetAt K H s r ∧ H r = some (.lst xs) ∧ xs.length ≤ 1000000 ∧ Q (.int (xs.length : Int)) (upd H r (.lst (xs ++ [y])))
theorem ok_Sheet_add (T : Top K mg) : FnOk P w K mg base CX0 1 T.a_Sheet_add T.d_Sheet_add ["self", "row"] (sp_Sheet_add K) := by
  refine T.f_Sheet_add.ok sc_Sheet_add (fun vs H Q E h => ?_) (fun cdv A outer s H vs Q E hr h => ?_)
  · obtain ⟨s, r, xs, y, rfl, _⟩ := h
    rfl
  obtain ⟨s, r, xs, y, rfl, h⟩ := h
  refine ⟨_, (pss_cons (ps_expr (pe_bm PySem.F.plainAttrs_list PySem.F.slot_list_append PySem.F.type_list_append mt_append (pe_fld (pv 0) rfl) (pa_cons (pv 1) pa_nil)))
      (pss_one (ps_ret (pe_op op_sub (pe_callB (c_lenK K) (by rfl) T.z_len PySem.boot_len (pa_cons (pe_fld (pv 0) rfl) pa_nil)) pe_int)))), ?_⟩
  try dsimp only [cxOf, Cx.nox, Cx.wish]
  simp only [L2.start, List.map_cons, List.map_nil, List.length_cons, List.length_nil, Nat.reduceAdd, Nat.reduceSub, List.replicate_succ, List.replicate_zero, List.cons_append, List.nil_append]
  obtain ⟨⟨C, dx, hs, hC⟩, hr, hl, h⟩ := h
  obtain rfl := hC.one T.nc_Sheet
  have c1 := T.cl_Sheet
  have c2 := T.n_Sheet_rows
  have ne : s ≠ r := fun z => by
    rw [z, hr] at hs
    cases hs
  walk_at "ws"
  have e : (((xs ++ [y]).length : Nat) : Int) - 1 = (xs.length : Int) := by
    rw [List.length_append, List.length_singleton]
    omega
  rw [e]
  exact h
def sp_Sheet_rows_now (K : PySem.W.Frag) : Sp := fun vs H Q _ => ∃ (s r : Addr) (xs : List V), vs = [.ref s] ∧ SheetAt K H s r ∧ H r = some (.lst xs) ∧ xs.length ≤ 1000000 ∧ ∀ p H', H p = none → Same H H' → H' p = some (.lst xs) → Q (.ref p) H'
theorem ok_Sheet_rows_now (T : Top K mg) : FnOk P w K mg base CX0 1 T.a_Sheet_rows_now T.d_Sheet_rows_now ["self"] (sp_Sheet_rows_now K) := by
  refine T.f_Sheet_rows_now.ok sc_Sheet_rows_now (fun vs H Q E h => ?_) (fun cdv A outer s H vs Q E hr h => ?_)
  · obtain ⟨s, r, xs, rfl, _⟩ := h
    rfl
  obtain ⟨s, r, xs, rfl, h⟩ := h
  refine ⟨_, (pss_one (ps_ret (pe_callTy (c_listK K) (by rfl) T.z_list (by decide +kernel) (pa_cons (pe_fld (pv 0) rfl) pa_nil)))), ?_⟩
  try dsimp only [cxOf, Cx.nox, Cx.wish]
  simp only [L2.start, List.map_cons, List.map_nil, List.length_cons, List.length_nil, Nat.reduceAdd, Nat.reduceSub, List.replicate_succ, List.replicate_zero, List.cons_append, List.nil_append]
  obtain ⟨⟨C, dx, hs, hC⟩, hr, hl, h⟩ := h
  obtain rfl := hC.one T.nc_Sheet
  have c1 := T.cl_Sheet
  have c2 := T.n_Sheet_rows
  walk_at "ws"
  rename_i p H1 n1 s1 e1
  exact h p H1 n1 s1 e1

/-! names: one to six small letters -/
def letter (c : Nat) : Prop := 97 ≤ c ∧ c ≤ 122
def NameOk (s : Str) : Prop := (1 ≤ s.length ∧ s.length ≤ 6) ∧ ∀ c ∈ s.cps.toList, letter c
theorem letters_at (i : Int) (h : 0 ≤ i ∧ i < 26) : ∃ c, atI (Str.ofString "abcdefghijklmnopqrstuvwxyz").cps.toList i = some c ∧ letter c := by
  have e : (Str.ofString "abcdefghijklmnopqrstuvwxyz").cps.toList = (List.range 26).map (· + 97) := by decide +kernel
  rw [e]
  obtain ⟨n, rfl⟩ := Int.eq_ofNat_of_zero_le h.1
  have hn : n < 26 := by omega
  refine ⟨n + 97, atI_nat ?_, by unfold letter; omega⟩
  rw [List.getElem?_map, List.getElem?_range hn]
  rfl
theorem tl_concat : ∀ ss : List Str, (Txt.join "" ss).cps.toList = (ss.map fun s => s.cps.toList).flatten := by
  intro ss
  have h : TL.tl (Txt.join "" ss) = TL.joinL (TL.tl "") (ss.map TL.tl) := by rw [TL.join_eq, TL.tl_join]
  have e : TL.tl "" = [] := by decide +kernel
  rw [e] at h
  have key : ∀ l : List (List Nat), TL.joinL [] l = l.flatten := by
    intro l
    induction l with
    | nil => rfl
    | cons p r ih =>
      cases r with
      | nil => exact (List.append_nil p).symm
      | cons q r => show p ++ ([] ++ TL.joinL [] (q :: r)) = p ++ (q :: r).flatten; rw [List.nil_append, ih]
  rw [key] at h
  exact h
/-- signs that are one letter each -/
def oneL (s : Str) : Prop := ∃ c, s = ⟨#[c]⟩ ∧ letter c
theorem ones_join {ss : List Str} (h : ∀ s ∈ ss, oneL s) : (Txt.join "" ss).length = ss.length ∧ ∀ c ∈ (Txt.join "" ss).cps.toList, letter c := by
  have e := tl_concat ss
  have key : ∀ ss : List Str, (∀ s ∈ ss, oneL s) → (ss.map fun s => s.cps.toList).flatten.length = ss.length ∧ ∀ c ∈ (ss.map fun s => s.cps.toList).flatten, letter c := by
    intro ss
    induction ss with
    | nil => intro _; exact ⟨rfl, fun c hc => by cases hc⟩
    | cons s r ih =>
      intro h
      obtain ⟨c, rfl, hc⟩ := h s (List.mem_cons_self ..)
      obtain ⟨h1, h2⟩ := ih fun z hz => h z (List.mem_cons_of_mem _ hz)
      refine ⟨?_, fun d hd => ?_⟩
      · show (c :: (r.map fun s => s.cps.toList).flatten).length = (r.length + 1)
        rw [List.length_cons, h1]
      · rcases List.mem_cons.mp (show d ∈ c :: (r.map fun s => s.cps.toList).flatten from hd) with q | q
        · rw [q]; exact hc
        · exact h2 d q
  obtain ⟨k1, k2⟩ := key ss h
  refine ⟨?_, fun c hc => k2 c (by rw [← e]; exact hc)⟩
  rw [← k1, ← e]
  exact (Array.length_toList).symm
theorem ones_sum : ∀ {ss : List Str}, (∀ s ∈ ss, oneL s) → (ss.map (·.length)).sum = ss.length
  | [], _ => rfl
  | s :: r, h => by
    obtain ⟨c, rfl, hc⟩ := h s (List.mem_cons_self ..)
    have ih := ones_sum fun z hz => h z (List.mem_cons_of_mem _ hz)
    rw [List.map_cons, List.sum_cons, ih, List.length_cons]
    show 1 + r.length = r.length + 1
    omega
theorem cut_name {z : Str} {n : Nat} (hz : n ≤ z.length) (h : ∀ c ∈ z.cps.toList, letter c) (hn : 1 ≤ n ∧ n ≤ 6) : NameOk (cutS z none (some (n : Int))) := by
  have e : (cutS z none (some (n : Int))).cps.toList = z.cps.toList.take n := by
    unfold cutS
    rw [HT.sIx_none, HT.sIx_nat, Nat.min_eq_left hz, List.drop_zero, Nat.sub_zero, List.toList_toArray]
  have hl : (cutS z none (some (n : Int))).length = n := by
    have : (cutS z none (some (n : Int))).length = (cutS z none (some (n : Int))).cps.toList.length := (Array.length_toList).symm
    rw [this, e, List.length_take]
    have : z.cps.toList.length = z.length := Array.length_toList
    omega
  refine ⟨by rw [hl]; exact hn, fun c hc => ?_⟩
  rw [e] at hc
  exact h c (List.mem_of_mem_take hc)
theorem name_strOk {s : Str} (h : NameOk s) : PyData.strOk s = true := by
  unfold PyData.strOk
  rw [Array.all_eq_true_iff_forall_mem]
  intro c hc
  have := h.2 c (Array.mem_toList_iff.mpr hc)
  unfold letter at this
  exact decide_eq_true (by omega)

/-! heaps of dots -/
def HeapAt (K : PySem.W.Frag) (H : Hp) (h c : Addr) (ps : List Addr) (cols : List (List Nat)) : Prop := (∃ C dx, H h = some (.ins C dx [("many", .int (cols.length : Int)), ("columns", .ref c)]) ∧ IsC K "Heap" C) ∧ Cols H c ps cols
theorem HeapAt.same {H H' : Hp} {h c : Addr} {ps : List Addr} {cols : List (List Nat)} (s : Same H H') (k : HeapAt K H h c ps cols) : HeapAt K H' h c ps cols := by
  obtain ⟨⟨C, dx, h1, h2⟩, h3⟩ := k
  exact ⟨⟨C, dx, s _ _ h1, h2⟩, h3.same s⟩
theorem HeapAt.hn {H : Hp} {h c : Addr} {ps : List Addr} {cols : List (List Nat)} (k : HeapAt K H h c ps cols) : h ∉ ps := fun m => by
  obtain ⟨⟨C, dx, h1, h2⟩, h3⟩ := k
  obtain ⟨xs, e⟩ := h3.at m
  rw [h1] at e
  cases e
theorem HeapAt.trk {H : Hp} {h c : Addr} {ps : List Addr} {cols : List (List Nat)} (k : HeapAt K H h c ps cols) (x : Addr) (hx : x = h ∨ x = c ∨ x ∈ ps) : H x ≠ none := fun e => by
  obtain ⟨⟨C, dx, h1, h2⟩, h3⟩ := k
  rcases hx with rfl | rfl | hx
  · rw [h1] at e; cases e
  · rw [h3.1] at e; cases e
  · obtain ⟨xs, e2⟩ := h3.at hx
    rw [e2] at e; cases e
theorem Cols.trk {H : Hp} {c : Addr} {ps : List Addr} {cols : List (List Nat)} (k : Cols H c ps cols) (x : Addr) (hx : x = c ∨ x ∈ ps) : H x ≠ none := fun e => by
  rcases hx with rfl | hx
  · rw [k.1] at e; cases e
  · obtain ⟨xs, e2⟩ := k.at hx
    rw [e2] at e; cases e
theorem HeapAt.fr {ms : List Addr} {H H' : Hp} {h c : Addr} {ps : List Addr} {cols : List (List Nat)} (f : Fr ms H H') (nh : h ∉ ms) (nc : c ∉ ms) (np : ∀ p ∈ ps, p ∉ ms) (k : HeapAt K H h c ps cols) : HeapAt K H' h c ps cols := by
  obtain ⟨⟨C, dx, h1, h2⟩, h3⟩ := k
  exact ⟨⟨C, dx, f _ _ h1 nh, h2⟩, h3.fr f nc np⟩
theorem HeapAt.put {H : Hp} {h c p : Addr} {ps : List Addr} {cols : List (List Nat)} {k : Nat} {ys : List Nat} (q : HeapAt K H h c ps cols) (hp : ps[k]? = some p) : HeapAt K (upd H p (.lst ((natI ys).map V.int))) h c ps (cols.set k ys) := by
  have hn := q.hn
  obtain ⟨⟨C, dx, h1, h2⟩, h3⟩ := q
  refine ⟨⟨C, dx, ?_, h2⟩, h3.put hp⟩
  rw [upd_ne (fun z => hn (by rw [z]; exact List.mem_of_getElem? hp)), List.length_set]
  exact h1
def sp_Heap__init (K : PySem.W.Frag) : Sp := fun vs H Q _ => ∃ (s C dx : Addr) (n : Nat), vs = [.ref s, .int (n : Int)] ∧ H s = some (.ins C dx []) ∧ IsC K "Heap" C ∧ n ≤ 1000 ∧ ∀ (c : Addr) (ps : List Addr) (H1 : Hp), H c = none → (∀ p ∈ ps, H p = none) → HeapAt K H1 s c ps (List.replicate n []) → Fr [s] H H1 → Q .non H1
theorem ok_Heap__init (T : Top K mg) : FnOk P w K mg base CX0 1 T.a_Heap__init T.d_Heap__init ["self", "many"] (sp_Heap__init K) := by
  refine T.f_Heap__init.ok sc_Heap__init (fun vs H Q E h => ?_) (fun cdv A outer s H vs Q E hr h => ?_)
  · obtain ⟨s, C, dx, n, rfl, _⟩ := h
    rfl
  obtain ⟨s, C, dx, n, rfl, h⟩ := h
  refine ⟨_, (pss_cons (ps_fld (pv 0) (pv 1) rfl)
      (pss_one (ps_fld (pv 0) (pe_lc (own := [("k", 2)]) (g := gName 2) (tt := tYes) (by rfl) sc_Heap__init.nd (pi_range1 (by rfl) T.z_range (pa_cons (pv 1) pa_nil)) (blkOk_by (N := ["self", "many", "k"]) (sc := defScope s_Heap__init) (by decide +kernel)) (fun _ _ _ _ _ => (pg_name (i := 2) sc_Heap__init.nd rfl (.inl rfl))) (fun _ _ _ _ _ => pts_nil) (fun _ _ _ _ _ => (pe_lst pa_nil))) rfl))), ?_⟩
  try dsimp only [cxOf, Cx.nox, Cx.wish]
  simp only [L2.start, List.map_cons, List.map_nil, List.length_cons, List.length_nil, Nat.reduceAdd, Nat.reduceSub, List.replicate_succ, List.replicate_zero, List.cons_append, List.nil_append]
  obtain ⟨hs, hC, hn, h⟩ := h
  obtain rfl := hC.one T.nc_Heap
  have c1 := T.cl_Heap
  have c2 := T.n_Heap_many
  have c3 := T.n_Heap_columns
  walk_at "ws"
  refine lc_empties (by omega) (fun x => rfl) fun c ps H1 hpl nc np s1 hc => ?_
  rw [show ((n : Int)).toNat = n by omega] at hc hpl
  have es := s1 _ _ (upd_same (H := H) (a := s))
  have cs : c ≠ s := fun z => by rw [z, upd_same] at nc; cases nc
  have nc0 : H c = none := by rwa [upd_ne cs] at nc
  have ps0 : ∀ p ∈ ps, p ≠ s ∧ H p = none := fun p m => by
    have e := np p m
    have ne : p ≠ s := fun z => by rw [z, upd_same] at e; cases e
    exact ⟨ne, by rwa [upd_ne ne] at e⟩
  walk_at "ws"
  refine h c ps _ nc0 (fun p m => (ps0 p m).2) ⟨⟨T.c_Heap, dx, ?_, hC⟩, hc.fr (ms := [s]) (Fr.put (List.mem_cons_self ..)) (by simpa using cs) (fun p m => by simpa using (ps0 p m).1)⟩ ?_
  · rw [upd_same, List.length_replicate]
    rfl
  · exact ((Fr.put (List.mem_cons_self ..)).trans (Fr.of s1)).trans (Fr.put (List.mem_cons_self ..))
def sp_Heap_put (K : PySem.W.Frag) : Sp := fun vs H Q _ => ∃ (s c : Addr) (ps : List Addr) (cols : List (List Nat)) (k w : Nat), vs = [.ref s, .int (k : Int), .int (w : Int)] ∧ HeapAt K H s c ps cols ∧ (∀ xs ∈ cols, xs.length ≤ 700000) ∧ ∀ H', HeapAt K H' s c ps (addC cols k w) → Fr ps H H' → Q .non H'
theorem ok_Heap_put (T : Top K mg) : FnOk P w K mg base CX0 1 T.a_Heap_put T.d_Heap_put ["self", "column", "wire"] (sp_Heap_put K) := by
  refine T.f_Heap_put.ok sc_Heap_put (fun vs H Q E h => ?_) (fun cdv A outer s H vs Q E hr h => ?_)
  · obtain ⟨s, c, ps, cols, k, w, rfl, _⟩ := h
    rfl
  obtain ⟨s, c, ps, cols, k, w, rfl, h⟩ := h
  refine ⟨_, (pss_one (ps_if (pt_cmpR op_lt (pv 1) (pe_fld (pv 0) rfl) (nomark _)) (pss_one (ps_expr (pe_bm PySem.F.plainAttrs_list PySem.F.slot_list_append PySem.F.type_list_append mt_append (pe_ix (ix_listK K) (pe_fld (pv 0) rfl) (pv 1) (fun _ _ => rfl)) (pa_cons (pv 2) pa_nil)))) pss_nil)), ?_⟩
  try dsimp only [cxOf, Cx.nox, Cx.wish]
  simp only [L2.start, List.map_cons, List.map_nil, List.length_cons, List.length_nil, Nat.reduceAdd, Nat.reduceSub, List.replicate_succ, List.replicate_zero, List.cons_append, List.nil_append]
  obtain ⟨ha, hsz, h⟩ := h
  obtain ⟨⟨C, dx, hs, hC⟩, hc⟩ := id ha
  obtain rfl := hC.one T.nc_Heap
  have c1 := T.cl_Heap
  have c2 := T.n_Heap_many
  have c3 := T.n_Heap_columns
  have hc1 := hc.1
  walk_at "ws"
  · obtain ⟨p, xs, h1, h2, h3, h4⟩ := hc.ix (k := k) (by omega)
    have := hsz xs (List.mem_of_getElem? h2)
    have hz : ((natI xs).map V.int).length ≤ 700000 := by rw [List.length_map, natI_len]; exact this
    refine w_ixL (SqL.of hc1) h3 ?_
    walk_at "ws"
    rw [nat_snoc]
    refine h _ ?_ (Fr.put (List.mem_of_getElem? h1))
    rw [addC_set h2]
    exact ha.put h1
  · refine h _ ?_ Fr.refl
    rw [addC_no (by omega)]
    exact ha
def sp_Heap_heights (K : PySem.W.Frag) : Sp := fun vs H Q _ => ∃ (s c : Addr) (ps : List Addr) (cols : List (List Nat)), vs = [.ref s] ∧ HeapAt K H s c ps cols ∧ cols.length ≤ 1000 ∧ ∀ p H', H p = none → Same H H' → NatsAt H' p (lens cols) → Q (.ref p) H'
theorem ok_Heap_heights (T : Top K mg) : FnOk P w K mg base CX0 1 T.a_Heap_heights T.d_Heap_heights ["self"] (sp_Heap_heights K) := by
  refine T.f_Heap_heights.ok sc_Heap_heights (fun vs H Q E h => ?_) (fun cdv A outer s H vs Q E hr h => ?_)
  · obtain ⟨s, c, ps, cols, rfl, _⟩ := h
    rfl
  obtain ⟨s, c, ps, cols, rfl, h⟩ := h
  refine ⟨_, (pss_one (ps_ret (pe_lc (own := [("dots", 1)]) (g := gName 1) (tt := tYes) (by rfl) sc_Heap_heights.nd (pi_list (pe_fld (pv 0) rfl)) (blkOk_by (N := ["self", "dots"]) (sc := defScope s_Heap_heights) (by decide +kernel)) (fun _ _ _ _ _ => (pg_name (i := 1) sc_Heap_heights.nd rfl (.inl rfl))) (fun _ _ _ _ _ => pts_nil) (fun _ _ _ _ _ => (pe_callB (c_lenK K) (by rfl) T.z_len PySem.boot_len (pa_cons (pv 1) pa_nil)))))), ?_⟩
  try dsimp only [cxOf, Cx.nox, Cx.wish]
  simp only [L2.start, List.map_cons, List.map_nil, List.length_cons, List.length_nil, Nat.reduceAdd, Nat.reduceSub, List.replicate_succ, List.replicate_zero, List.cons_append, List.nil_append]
  obtain ⟨⟨⟨C, dx, hs, hC⟩, hc⟩, hl, h⟩ := h
  obtain rfl := hC.one T.nc_Heap
  have c1 := T.cl_Heap
  have c3 := T.n_Heap_columns
  have hc1 := hc.1
  have hpl := hc.2.1.1
  walk_at "ws"
  refine lc_l (ps.map V.ref) ((natI (lens cols)).map V.int) (by rw [List.length_map, List.length_map, natI_len, lens, List.length_map, hpl]) (SqL.of hc1) (by rw [List.length_map]; omega) (fun x => rfl) (fun j x y G Q' hx hy s1 k => ?_) (fun p G n1 s1 e1 => ?_)
  · obtain ⟨p, hp, rfl⟩ := get_map hx
    obtain ⟨xs, hxs, e⟩ := hc.2.1.get hp
    have e' := s1 _ _ (show H p = some (.lst ((natI xs).map V.int)) from e)
    rw [natI_map, lens, List.getElem?_map, List.getElem?_map, hxs] at hy
    cases hy
    walk_at "ws"
    rw [List.length_map, natI_len]
    exact k
  exact h p G n1 s1 e1
def sp_Heap_column (K : PySem.W.Frag) : Sp := fun vs H Q _ => ∃ (s c : Addr) (ps : List Addr) (cols : List (List Nat)) (k : Nat) (xs : List Nat), vs = [.ref s, .int (k : Int)] ∧ HeapAt K H s c ps cols ∧ cols[k]? = some xs ∧ ∀ p H', H p = none → Same H H' → NatsAt H' p xs → Q (.ref p) H'
theorem ok_Heap_column (T : Top K mg) : FnOk P w K mg base CX0 1 T.a_Heap_column T.d_Heap_column ["self", "k"] (sp_Heap_column K) := by
  refine T.f_Heap_column.ok sc_Heap_column (fun vs H Q E h => ?_) (fun cdv A outer s H vs Q E hr h => ?_)
  · obtain ⟨s, c, ps, cols, k, xs, rfl, _⟩ := h
    rfl
  obtain ⟨s, c, ps, cols, k, xs, rfl, h⟩ := h
  refine ⟨_, (pss_one (ps_ret (pe_callTy (c_listK K) (by rfl) T.z_list (by decide +kernel) (pa_cons (pe_ix (ix_listK K) (pe_fld (pv 0) rfl) (pv 1) (fun _ _ => rfl)) pa_nil)))), ?_⟩
  try dsimp only [cxOf, Cx.nox, Cx.wish]
  simp only [L2.start, List.map_cons, List.map_nil, List.length_cons, List.length_nil, Nat.reduceAdd, Nat.reduceSub, List.replicate_succ, List.replicate_zero, List.cons_append, List.nil_append]
  obtain ⟨⟨⟨C, dx, hs, hC⟩, hc⟩, hk, h⟩ := h
  obtain rfl := hC.one T.nc_Heap
  have c1 := T.cl_Heap
  have c3 := T.n_Heap_columns
  have hc1 := hc.1
  have hkl := (List.getElem?_eq_some_iff.mp hk).1
  obtain ⟨p, ys, h1, h2, h3, h4⟩ := hc.ix hkl
  rw [hk] at h2
  cases h2
  walk_at "ws"
  refine w_ixL (SqL.of hc1) h3 ?_
  walk_at "ws"
  exact h _ _ (by assumption) (by assumption) (by assumption)

/-! rows put on a sheet -/
def Ext (ks ks' : List Row) : Prop := ∃ t, ks' = ks ++ t
theorem Ext.refl (ks : List Row) : Ext ks ks := ⟨[], (List.append_nil ks).symm⟩
theorem Ext.trans {a b c : List Row} (h : Ext a b) (k : Ext b c) : Ext a c := by
  obtain ⟨t, rfl⟩ := h
  obtain ⟨u, rfl⟩ := k
  exact ⟨t ++ u, List.append_assoc ..⟩
theorem Ext.app (a t : List Row) : Ext a (a ++ t) := ⟨t, rfl⟩
theorem Ext.get {a b : List Row} (h : Ext a b) {i : Nat} {r : Row} (e : a[i]? = some r) : b[i]? = some r := by
  obtain ⟨t, rfl⟩ := h
  rw [List.getElem?_append_left (List.getElem?_eq_some_iff.mp e).1]
  exact e
theorem Ext.len {a b : List Row} (h : Ext a b) : a.length ≤ b.length := by
  obtain ⟨t, rfl⟩ := h
  rw [List.length_append]
  omega
theorem Ext.bit {a b : List Row} (h : Ext a b) (ws : List (Str × Int)) {w : Nat} (hw : w < a.length) : bit ws b w = bit ws a w := by
  obtain ⟨t, rfl⟩ := h
  exact run_grow (gateI ws) hw
theorem Ext.dep {a b : List Row} (h : Ext a b) {w : Nat} (hw : w < a.length) : dep b w = dep a w := by
  obtain ⟨t, rfl⟩ := h
  exact run_grow deepI hw
theorem sheet_ne {H : Hp} {s r : Addr} {xs : List V} (hs : SheetAt K H s r) (hr : H r = some (.lst xs)) : s ≠ r := by
  obtain ⟨C, dx, h1, _⟩ := hs
  exact ne_of h1 hr (by intro z; cases z)
theorem SheetAt.same {H H' : Hp} {s r : Addr} (sm : Same H H') (hs : SheetAt K H s r) : SheetAt K H' s r := by
  obtain ⟨C, dx, h1, h2⟩ := hs
  exact ⟨C, dx, sm _ _ h1, h2⟩
theorem SheetAt.fr {ms : List Addr} {H H' : Hp} {s r : Addr} (f : Fr ms H H') (n : s ∉ ms) (hs : SheetAt K H s r) : SheetAt K H' s r := by
  obtain ⟨C, dx, h1, h2⟩ := hs
  exact ⟨C, dx, f _ _ h1 n, h2⟩
theorem RowsM.fr {ms : List Addr} {H H' : Hp} {a : Addr} {rs : List Row} (f : Fr ms H H') (n : a ∉ ms) (np : ∀ p r, p ∈ ms → RowAt H p r → False) (h : RowsM H a rs) : RowsM H' a rs := by
  obtain ⟨ps, h1, h2⟩ := h
  exact ⟨ps, f _ _ h1 n, h2.mono fun p r e => f _ _ e fun z => np p r z e⟩
theorem use_add {H : Hp} {s r p : Addr} {rs : List Row} {x : Row} {Q : VK} {E : XK} (hs : SheetAt K H s r) (hM : RowsM H r rs) (hp : RowAt H p x) (hl : rs.length ≤ 900000)
    (q : ∀ H', SheetAt K H' s r → RowsM H' r (rs ++ [x]) → Fr [r] H H' → Q (.int (rs.length : Int)) H') : sp_Sheet_add K (.ref s :: ([.ref p] ++ [])) H Q E := by
  obtain ⟨ps, h1, h2⟩ := hM
  have hl2 : (ps.map V.ref).length = rs.length := by rw [List.length_map, h2.1]
  have ne := sheet_ne hs h1
  refine ⟨s, r, _, _, rfl, hs, h1, by omega, ?_⟩
  rw [hl2]
  exact q _ (hs.fr (ms := [r]) (Fr.put (List.mem_cons_self ..)) (by simpa using ne)) (RowsM.push h1 h2 hp) (Fr.put (List.mem_cons_self ..))
theorem use_now {H : Hp} {s r : Addr} {rs : List Row} {Q : VK} {E : XK} (hs : SheetAt K H s r) (hM : RowsM H r rs) (hl : rs.length ≤ 900000)
    (q : ∀ p H', H p = none → Same H H' → RowsM H' p rs → Q (.ref p) H') : sp_Sheet_rows_now K (.ref s :: ([] ++ [])) H Q E := by
  obtain ⟨ps, h1, h2⟩ := hM
  refine ⟨s, r, _, rfl, hs, h1, by rw [List.length_map, h2.1]; omega, fun p H' n s e => q p H' n s ⟨ps, e, h2.mono fun _ _ e => s _ _ e⟩⟩
/-! pairs of wires joined -/
def PairAt (H : Hp) (p : Addr) (m q : Nat) : Prop := H p = some (.tup [.int (m : Int), .int (q : Int)])
def joinR (n h0 h1 l0 l1 : Nat) : List Row := [.bin .and h1 l0, .bin .or h0 n, .bin .and h1 l1]
def sp_joined (K : PySem.W.Frag) : Sp := fun vs H Q _ => ∃ (s r ph pl : Addr) (rs : List Row) (h0 h1 l0 l1 : Nat), vs = [.ref s, .ref ph, .ref pl] ∧ SheetAt K H s r ∧ RowsM H r rs ∧ PairAt H ph h0 h1 ∧ PairAt H pl l0 l1 ∧ rs.length ≤ 800000 ∧
  ∀ t H', H t = none → Fr [r] H H' → SheetAt K H' s r → RowsM H' r (rs ++ joinR rs.length h0 h1 l0 l1) → PairAt H' t (rs.length + 1) (rs.length + 2) → Q (.ref t) H'
theorem ok_joined (T : Top K mg) : FnOk P w K mg base CX0 2 T.a_joined T.d_joined ["sheet", "high", "low"] (sp_joined K) := by
  refine T.f_joined.ok sc_joined (fun vs H Q E h => ?_) (fun cdv A outer s H vs Q E hr h => ?_)
  · obtain ⟨s, r, ph, pl, rs, h0, h1, l0, l1, rfl, _⟩ := h
    rfl
  obtain ⟨s, r, ph, pl, rs, h0, h1, l0, l1, rfl, h⟩ := h
  refine ⟨_, (pss_cons (ps_set (i := 3) sc_joined.nd rfl (.inl rfl) (pe_meth (pv 0) T.cl_Sheet T.m_Sheet_add (ok_Sheet_add T) (hr.mono (by decide)) T.b_Sheet_add .nil pass0 (pa_cons (pe_tup (pa_cons pe_str (pa_cons (pe_ix (ix_tupK K) (pv 1) pe_int (fun _ _ => rfl)) (pa_cons (pe_ix (ix_tupK K) (pv 2) pe_int (fun _ _ => rfl)) pa_nil)))) pa_nil)))
      (pss_cons (ps_set (i := 4) sc_joined.nd rfl (.inl rfl) (pe_meth (pv 0) T.cl_Sheet T.m_Sheet_add (ok_Sheet_add T) (hr.mono (by decide)) T.b_Sheet_add .nil pass0 (pa_cons (pe_tup (pa_cons pe_str (pa_cons (pe_ix (ix_tupK K) (pv 1) pe_int (fun _ _ => rfl)) (pa_cons (pv 3) pa_nil)))) pa_nil)))
      (pss_cons (ps_set (i := 5) sc_joined.nd rfl (.inl rfl) (pe_meth (pv 0) T.cl_Sheet T.m_Sheet_add (ok_Sheet_add T) (hr.mono (by decide)) T.b_Sheet_add .nil pass0 (pa_cons (pe_tup (pa_cons pe_str (pa_cons (pe_ix (ix_tupK K) (pv 1) pe_int (fun _ _ => rfl)) (pa_cons (pe_ix (ix_tupK K) (pv 2) pe_int (fun _ _ => rfl)) pa_nil)))) pa_nil)))
      (pss_one (ps_ret (pe_tup (pa_cons (pv 4) (pa_cons (pv 5) pa_nil)))))))), ?_⟩
  try dsimp only [cxOf, Cx.nox, Cx.wish]
  simp only [L2.start, List.map_cons, List.map_nil, List.length_cons, List.length_nil, Nat.reduceAdd, Nat.reduceSub, List.replicate_succ, List.replicate_zero, List.cons_append, List.nil_append]
  obtain ⟨hs, hM, hh, hlo, hl, h⟩ := h
  have hh : H ph = some (.tup [.int (h0 : Int), .int (h1 : Int)]) := hh
  have hlo : H pl = some (.tup [.int (l0 : Int), .int (l1 : Int)]) := hlo
  obtain ⟨C, dx, e1, e2⟩ := id hs
  obtain rfl := e2.one T.nc_Sheet
  have c1 := T.cl_Sheet
  obtain ⟨_, eM, _⟩ := id hM
  have nh : ph ≠ r := ne_of hh eM (by intro z; cases z)
  have nl : pl ≠ r := ne_of hlo eM (by intro z; cases z)
  have ns : s ≠ r := sheet_ne hs eM
  walk_at "ws"
  rename_i p1 H1 n1 s1 e1'
  refine use_add (x := .bin .and h1 l0) (hs.same s1) (hM.same s1) e1' (by omega) fun H2 hs2 hM2 f2 => ?_
  have f02 : Fr [r] H H2 := (Fr.of s1).trans f2
  have e1_2 := f02 _ _ e1 (by simpa using ns)
  have hh2 := f02 _ _ hh (by simpa using nh)
  have hl2 := f02 _ _ hlo (by simpa using nl)
  walk_at "ws"
  rename_i p3 H3 n3 s3 e3
  refine use_add (x := .bin .or h0 rs.length) (hs2.same s3) (hM2.same s3) e3 (by rw [List.length_append]; simp only [List.length_cons, List.length_nil]; omega) fun H4 hs4 hM4 f4 => ?_
  have f04 : Fr [r] H H4 := (f02.trans (Fr.of s3)).trans f4
  have e1_4 := f04 _ _ e1 (by simpa using ns)
  have hh4 := f04 _ _ hh (by simpa using nh)
  have hl4 := f04 _ _ hlo (by simpa using nl)
  walk_at "ws"
  rename_i p5 H5 n5 s5 e5
  refine use_add (x := .bin .and h1 l1) (hs4.same s5) (hM4.same s5) e5 (by simp only [List.length_append, List.length_cons, List.length_nil]; omega) fun H6 hs6 hM6 f6 => ?_
  have f06 : Fr [r] H H6 := (f04.trans (Fr.of s5)).trans f6
  walk_at "ws"
  rename_i t H7 n7 s7 e7
  simp only [List.length_append, List.length_cons, List.length_nil] at e7
  rw [List.append_assoc, List.append_assoc] at hM6
  have nt : H t = none := by
    cases e : H t with
    | none => rfl
    | some o =>
      by_cases z : t = r
      · obtain ⟨_, eM6, _⟩ := hM6
        rw [z, eM6] at n7
        cases n7
      · rw [f06 _ _ e (by simpa using z)] at n7
        cases n7
  exact h t H7 nt (f06.trans (Fr.of s7)) (hs6.same s7) (hM6.same s7) e7

/-! carries along splits, the mathematics -/
def joinRs (rs : List Row) (lo : Nat × Nat) (us : List (Nat × Nat)) : List Row := us.foldl (fun r u => r ++ joinR r.length u.1 u.2 lo.1 lo.2) rs
def joinOut (n k : Nat) : List (Nat × Nat) := (List.range k).map fun j => (n + 3 * j + 1, n + 3 * j + 2)
theorem joinRs_snoc (rs : List Row) (lo : Nat × Nat) (us : List (Nat × Nat)) (u : Nat × Nat) : joinRs rs lo (us ++ [u]) = joinRs rs lo us ++ joinR (joinRs rs lo us).length u.1 u.2 lo.1 lo.2 := List.foldl_append ..
theorem joinOut_succ (n k : Nat) : joinOut n (k + 1) = joinOut n k ++ [(n + 3 * k + 1, n + 3 * k + 2)] := by
  unfold joinOut
  rw [List.range_succ, List.map_append]
  rfl
theorem list_snoc_ind {α : Type} {P : List α → Prop} (h0 : P []) (hs : ∀ l x, P l → P (l ++ [x])) : ∀ l, P l := fun l => by
  rw [← List.reverse_reverse l]
  induction l.reverse with
  | nil => exact h0
  | cons x r ih => rw [List.reverse_cons]; exact hs _ _ ih
theorem joinRs_len (rs : List Row) (lo : Nat × Nat) : ∀ us, (joinRs rs lo us).length = rs.length + 3 * us.length := by
  apply list_snoc_ind
  · rfl
  · intro l x ih
    rw [joinRs_snoc, List.length_append, ih, List.length_append]
    show _ + 3 = _ + 3 * (_ + 1)
    omega
def partM (ns : List Int) (a low high : Nat) : Nat := if ns.length = 0 then (low + high) / 2 else low + 1 + (ns.getD (a % ns.length) 0 % ((high : Int) - low - 1)).toNat
def partA (ns : List Int) (a : Nat) : Nat := if ns.length = 0 then a else a + 1
theorem partM_in (ns : List Int) (a : Nat) {low high : Nat} (h : low + 2 ≤ high) : low < partM ns a low high ∧ partM ns a low high < high := by
  unfold partM
  split
  · omega
  · have h1 := Int.emod_nonneg (ns.getD (a % ns.length) 0) (show ((high : Int) - low - 1) ≠ 0 by omega)
    have h2 := Int.emod_lt_of_pos (ns.getD (a % ns.length) 0) (show (0 : Int) < ((high : Int) - low - 1) by omega)
    omega
structure StrR where
  rs : List Row
  a : Nat
  out : List (Nat × Nat)
def lastP (l : List (Nat × Nat)) : Nat × Nat := l.getLastD (0, 0)
/-- rows and pairs, by the numbers alone; the fuel is above the columns' number -/
def strF (ns : List Int) (prs : List (Nat × Nat)) : Nat → List Row → Nat → Nat → Nat → StrR
  | 0, rs, a, _, _ => ⟨rs, a, []⟩
  | f + 1, rs, a, low, high =>
    if high - low < 2 then ⟨rs, a, (prs.drop low).take (high - low)⟩
    else
      let m := partM ns a low high
      let l := strF ns prs f rs (partA ns a) low m
      let u := strF ns prs f l.rs l.a m high
      ⟨joinRs u.rs (lastP l.out) u.out, u.a, l.out ++ joinOut u.rs.length u.out.length⟩
structure Bnd where
  a : Nat
  ds : List Int
def topI (x y : Int) : Int := if y > x then y else x
def bndF (ns : List Int) : Nat → Nat → Nat → Nat → Bnd
  | 0, a, _, _ => ⟨a, []⟩
  | f + 1, a, low, high =>
    if high - low < 2 then ⟨a, List.replicate (high - low) 0⟩
    else
      let m := partM ns a low high
      let l := bndF ns f (partA ns a) low m
      let u := bndF ns f l.a m high
      ⟨u.a, l.ds ++ u.ds.map fun d => 2 + topI d (l.ds.getLastD 0)⟩
/-- carry and passes of bits, from the lowest on -/
def stepC (c : Int × Int) (g : Int × Int) : Int × Int := (bopI .or g.1 (g.2 * c.1), c.2 * g.2)
def combL (l : List (Int × Int)) : Int × Int := l.foldl stepC (0, 1)
def is2 (p : Int × Int) : Prop := is01 p.1 ∧ is01 p.2
theorem stepC_01 {c g : Int × Int} (hc : is2 c) (hg : is2 g) : is2 (stepC c g) := by
  obtain ⟨c1, c2⟩ := c
  obtain ⟨g1, g2⟩ := g
  obtain ⟨h1 | h1, h2 | h2⟩ := hc <;> obtain ⟨h3 | h3, h4 | h4⟩ := hg <;> simp only at h1 h2 h3 h4 <;> subst h1 h2 h3 h4 <;> (refine ⟨?_, ?_⟩ <;> first | exact .inl rfl | exact .inr rfl)
theorem foldC_01 : ∀ {l : List (Int × Int)} {c : Int × Int}, is2 c → (∀ g ∈ l, is2 g) → is2 (l.foldl stepC c)
  | [], _, h, _ => h
  | g :: r, c, h, k => foldC_01 (l := r) (c := stepC c g) (stepC_01 h (k g (List.mem_cons_self ..))) fun x m => k x (List.mem_cons_of_mem _ m)
/-- from any carry: what is made here, or passes -/
theorem foldC_from : ∀ (l : List (Int × Int)) (c : Int × Int), is2 c → (∀ g ∈ l, is2 g) → l.foldl stepC c = (bopI .or (combL l).1 ((combL l).2 * c.1), c.2 * (combL l).2) := by
  apply list_snoc_ind (P := fun l => ∀ (c : Int × Int), is2 c → (∀ g ∈ l, is2 g) → l.foldl stepC c = (bopI .or (combL l).1 ((combL l).2 * c.1), c.2 * (combL l).2))
  · intro c hc _
    show c = (bopI .or 0 (1 * c.1), c.2 * 1)
    obtain ⟨c1, c2⟩ := c
    obtain ⟨h1 | h1, h2 | h2⟩ := hc <;> simp only at h1 h2 <;> subst h1 h2 <;> rfl
  · intro l g ih c hc hl
    have hl' : ∀ x ∈ l, is2 x := fun x m => hl x (List.mem_append_left _ m)
    have hg := hl g (List.mem_append_right _ (List.mem_cons_self ..))
    have h0 : is2 (combL l) := foldC_01 ⟨.inl rfl, .inr rfl⟩ hl'
    rw [List.foldl_append, ih c hc hl']
    have e : combL (l ++ [g]) = stepC (combL l) g := by unfold combL; rw [List.foldl_append]; rfl
    rw [e]
    generalize combL l = m at *
    obtain ⟨c1, c2⟩ := c
    obtain ⟨g1, g2⟩ := g
    obtain ⟨m1, m2⟩ := m
    obtain ⟨a1 | a1, a2 | a2⟩ := hc <;> obtain ⟨a3 | a3, a4 | a4⟩ := hg <;> obtain ⟨a5 | a5, a6 | a6⟩ := h0 <;> simp only at a1 a2 a3 a4 a5 a6 <;> subst a1 a2 a3 a4 a5 a6 <;> rfl
theorem combL_app {l u : List (Int × Int)} (hl : ∀ g ∈ l, is2 g) (hu : ∀ g ∈ u, is2 g) : combL (l ++ u) = (bopI .or (combL u).1 ((combL u).2 * (combL l).1), (combL u).2 * (combL l).2) := by
  have e : combL (l ++ u) = u.foldl stepC (combL l) := by unfold combL; rw [List.foldl_append]
  rw [e, foldC_from u (combL l) (foldC_01 ⟨.inl rfl, .inr rfl⟩ hl) hu, Int.mul_comm (combL l).2]
theorem join_ok {N : Str → Prop} {rs : List Row} {h0 h1 l0 l1 : Nat} (ok : RowsOk N rs) (h : h0 < rs.length ∧ h1 < rs.length ∧ l0 < rs.length ∧ l1 < rs.length) : RowsOk N (rs ++ joinR rs.length h0 h1 l0 l1) := by
  have e : rs ++ joinR rs.length h0 h1 l0 l1 = ((rs ++ [.bin .and h1 l0]) ++ [.bin .or h0 rs.length]) ++ [.bin .and h1 l1] := by
    simp only [joinR, List.append_assoc, List.cons_append, List.nil_append]
  rw [e]
  refine ((ok.snoc (show RowOk N _ (.bin .and h1 l0) from ⟨h.2.1, h.2.2.1⟩)).snoc (show RowOk N _ (.bin .or h0 rs.length) from ⟨?_, ?_⟩)).snoc (show RowOk N _ (.bin .and h1 l1) from ⟨?_, ?_⟩) <;> simp only [List.length_append, List.length_cons, List.length_nil] <;> omega
theorem join_nolat {rs : List Row} {n h0 h1 l0 l1 : Nat} (nl : NoLats rs) : NoLats (rs ++ joinR n h0 h1 l0 l1) := by
  intro r hr
  rcases List.mem_append.mp hr with z | z
  · exact nl r z
  · rcases List.mem_cons.mp z with e | z
    · rw [e]; exact True.intro
    · rcases List.mem_cons.mp z with e | z
      · rw [e]; exact True.intro
      · rw [List.mem_singleton.mp z]; exact True.intro
def JoinAt (R : List Row) (n : Nat) (u lo : Nat × Nat) : Prop := R[n]? = some (.bin .and u.2 lo.1) ∧ R[n + 1]? = some (.bin .or u.1 n) ∧ R[n + 2]? = some (.bin .and u.2 lo.2) ∧ u.1 < n ∧ u.2 < n ∧ lo.1 < n ∧ lo.2 < n
theorem JoinAt.ext {R R' : List Row} {n : Nat} {u lo : Nat × Nat} (h : JoinAt R n u lo) (e : Ext R R') : JoinAt R' n u lo := ⟨e.get h.1, e.get h.2.1, e.get h.2.2.1, h.2.2.2⟩
def bitP (ws : List (Str × Int)) (R : List Row) (p : Nat × Nat) : Int × Int := (bit ws R p.1, bit ws R p.2)
theorem bitP_01 {N : Str → Prop} {R : List Row} (ok : RowsOk N R) (ws : List (Str × Int)) (p : Nat × Nat) : is2 (bitP ws R p) := ⟨bit_01 ok ws p.1, bit_01 ok ws p.2⟩
theorem JoinAt.bits {N : Str → Prop} {R : List Row} {n : Nat} {u lo : Nat × Nat} (h : JoinAt R n u lo) (ok : RowsOk N R) (ws : List (Str × Int)) : bitP ws R (n + 1, n + 2) = (bopI .or (bitP ws R u).1 ((bitP ws R u).2 * (bitP ws R lo).1), (bitP ws R u).2 * (bitP ws R lo).2) := by
  obtain ⟨h1, h2, h3, _⟩ := h
  unfold bitP
  rw [bit_bin ok h2, bit_bin ok h1, bit_bin ok h3]
  rfl
theorem JoinAt.deep {N : Str → Prop} {R : List Row} {n : Nat} {u lo : Nat × Nat} (h : JoinAt R n u lo) (ok : RowsOk N R) {m : Int} (a : dep R u.1 ≤ m) (b : dep R u.2 ≤ m) (c : dep R lo.1 ≤ m) (d : dep R lo.2 ≤ m) : dep R (n + 1) ≤ 2 + m ∧ dep R (n + 2) ≤ 2 + m := by
  obtain ⟨h1, h2, h3, _⟩ := h
  have m0 : 0 ≤ m := Int.le_trans (dep_nn ok u.1) a
  have e1 : dep R n ≤ m + 1 := dep_le_of ok h1 (by omega) fun x hx => by
    rcases List.mem_cons.mp hx with z | z
    · rw [z]; omega
    · rw [List.mem_singleton.mp z]; omega
  refine ⟨dep_le_of ok h2 (by omega) fun x hx => ?_, dep_le_of ok h3 (by omega) fun x hx => ?_⟩
  · rcases List.mem_cons.mp hx with z | z
    · rw [z]; omega
    · rw [List.mem_singleton.mp z]; omega
  · rcases List.mem_cons.mp hx with z | z
    · rw [z]; omega
    · rw [List.mem_singleton.mp z]; omega
def LtP (R : List Row) (p : Nat × Nat) : Prop := p.1 < R.length ∧ p.2 < R.length
theorem LtP.ext {R R' : List Row} {p : Nat × Nat} (h : LtP R p) (e : Ext R R') : LtP R' p := ⟨Nat.lt_of_lt_of_le h.1 e.len, Nat.lt_of_lt_of_le h.2 e.len⟩
theorem Ext.bitP {R R' : List Row} {p : Nat × Nat} (e : Ext R R') (ws : List (Str × Int)) (h : LtP R p) : Dpr.bitP ws R' p = Dpr.bitP ws R p := by
  unfold Dpr.bitP
  rw [e.bit ws h.1, e.bit ws h.2]
theorem joinRs_ok {N : Str → Prop} {rs : List Row} (lo : Nat × Nat) (ok : RowsOk N rs) (nl : NoLats rs) (hlo : LtP rs lo) : ∀ us : List (Nat × Nat), (∀ u ∈ us, LtP rs u) → Ext rs (joinRs rs lo us) ∧ RowsOk N (joinRs rs lo us) ∧ NoLats (joinRs rs lo us) ∧ ∀ (j : Nat) u, us[j]? = some u → JoinAt (joinRs rs lo us) (rs.length + 3 * j) u lo := by
  apply list_snoc_ind (P := fun us => (∀ u ∈ us, LtP rs u) → Ext rs (joinRs rs lo us) ∧ RowsOk N (joinRs rs lo us) ∧ NoLats (joinRs rs lo us) ∧ ∀ (j : Nat) u, us[j]? = some u → JoinAt (joinRs rs lo us) (rs.length + 3 * j) u lo)
  · intro _
    exact ⟨Ext.refl _, ok, nl, fun j u h => by cases h⟩
  · intro us x ih hus
    obtain ⟨h1, h2, h3, h4⟩ := ih fun u m => hus u (List.mem_append_left _ m)
    have hx := hus x (List.mem_append_right _ (List.mem_cons_self ..))
    have hl := joinRs_len rs lo us
    rw [joinRs_snoc]
    generalize joinRs rs lo us = R at *
    have lx := hx.ext h1
    have llo := hlo.ext h1
    have hlt : x.1 < R.length ∧ x.2 < R.length ∧ lo.1 < R.length ∧ lo.2 < R.length := ⟨lx.1, lx.2, llo.1, llo.2⟩
    refine ⟨h1.trans (Ext.app _ _), join_ok h2 hlt, join_nolat h3, fun j u hj => ?_⟩
    by_cases c : j < us.length
    · rw [List.getElem?_append_left c] at hj
      exact (h4 j u hj).ext (Ext.app _ _)
    · have hj2 := (List.getElem?_eq_some_iff.mp hj).1
      rw [List.length_append, List.length_singleton] at hj2
      have ej : j = us.length := by omega
      subst ej
      rw [List.getElem?_append_right (Nat.le_refl _), Nat.sub_self] at hj
      cases hj
      rw [← hl]
      refine ⟨?_, ?_, ?_, lx.1, lx.2, llo.1, llo.2⟩
      · rw [List.getElem?_append_right (Nat.le_refl _), Nat.sub_self]; rfl
      · rw [List.getElem?_append_right (by omega), show R.length + 1 - R.length = 1 by omega]; rfl
      · rw [List.getElem?_append_right (by omega), show R.length + 2 - R.length = 2 by omega]; rfl
/-- what a stretch comes to -/
structure StrOk (N : Str → Prop) (prs : List (Nat × Nat)) (rs : List Row) (low high : Nat) (R : StrR) : Prop where
  ext : Ext rs R.rs
  ok : RowsOk N R.rs
  nl : NoLats R.rs
  len : R.out.length = high - low
  size : R.rs.length ≤ rs.length + 3 * (high - low) * (high - low)
  lt : ∀ p ∈ R.out, LtP R.rs p
  bits : ∀ (ws : List (Str × Int)) (j : Nat), j < high - low → bitP ws R.rs (R.out.getD j (0, 0)) = combL (((prs.drop low).take (j + 1)).map (bitP ws rs))
theorem strF_ok {N : Str → Prop} (ns : List Int) (prs : List (Nat × Nat)) : ∀ (f : Nat) (rs : List Row) (a low high : Nat), low ≤ high → high ≤ prs.length → high - low < f → RowsOk N rs → NoLats rs → (∀ p ∈ prs, LtP rs p) → StrOk N prs rs low high (strF ns prs f rs a low high)
  | 0, _, _, _, _, _, _, h, _, _, _ => absurd h (Nat.not_lt_zero _)
  | f + 1, rs, a, low, high, hlh, hp, hf, ok, nl, hlt => by
    by_cases c : high - low < 2
    · have e : strF ns prs (f + 1) rs a low high = ⟨rs, a, (prs.drop low).take (high - low)⟩ := by
        unfold strF
        rw [if_pos c]
      rw [e]
      refine ⟨Ext.refl _, ok, nl, ?_, ?_, fun p m => hlt p (List.mem_of_mem_drop (List.mem_of_mem_take m)), fun ws j hj => ?_⟩
      · show ((prs.drop low).take (high - low)).length = _
        rw [List.length_take, List.length_drop]; omega
      · show rs.length ≤ _
        exact Nat.le_add_right ..
      · have e1 : high - low = 1 := by omega
        have e2 : j = 0 := by omega
        subst e2
        have hl : low < prs.length := by omega
        show bitP ws rs (((prs.drop low).take (high - low)).getD 0 (0, 0)) = _
        rw [e1]
        have e3 : (prs.drop low).take 1 = [prs[low]] := by
          rw [List.drop_eq_getElem_cons hl]
          rfl
        rw [e3]
        show bitP ws rs prs[low] = combL [bitP ws rs prs[low]]
        have z := bitP_01 ok ws prs[low]
        generalize bitP ws rs prs[low] = g at *
        obtain ⟨g1, g2⟩ := g
        obtain ⟨a1 | a1, a2 | a2⟩ := z <;> simp only at a1 a2 <;> subst a1 a2 <;> rfl
    · have hm := partM_in ns a (low := low) (high := high) (by omega)
      have e : strF ns prs (f + 1) rs a low high = ⟨joinRs (strF ns prs f (strF ns prs f rs (partA ns a) low (partM ns a low high)).rs (strF ns prs f rs (partA ns a) low (partM ns a low high)).a (partM ns a low high) high).rs (lastP (strF ns prs f rs (partA ns a) low (partM ns a low high)).out) (strF ns prs f (strF ns prs f rs (partA ns a) low (partM ns a low high)).rs (strF ns prs f rs (partA ns a) low (partM ns a low high)).a (partM ns a low high) high).out, (strF ns prs f (strF ns prs f rs (partA ns a) low (partM ns a low high)).rs (strF ns prs f rs (partA ns a) low (partM ns a low high)).a (partM ns a low high) high).a, (strF ns prs f rs (partA ns a) low (partM ns a low high)).out ++ joinOut (strF ns prs f (strF ns prs f rs (partA ns a) low (partM ns a low high)).rs (strF ns prs f rs (partA ns a) low (partM ns a low high)).a (partM ns a low high) high).rs.length (strF ns prs f (strF ns prs f rs (partA ns a) low (partM ns a low high)).rs (strF ns prs f rs (partA ns a) low (partM ns a low high)).a (partM ns a low high) high).out.length⟩ := by
        conv => lhs; unfold strF
        rw [if_neg c]
      rw [e]
      generalize partM ns a low high = m at *
      have L := strF_ok ns prs f rs (partA ns a) low m (by omega) (by omega) (by omega) ok nl hlt
      generalize strF ns prs f rs (partA ns a) low m = l at *
      have U := strF_ok ns prs f l.rs l.a m high (by omega) hp (by omega) L.ok L.nl (fun p q => (hlt p q).ext L.ext)
      generalize strF ns prs f l.rs l.a m high = u at *
      have hne : l.out ≠ [] := fun z => by
        have := L.len
        rw [z] at this
        simp only [List.length_nil] at this
        omega
      have hlast : lastP l.out = l.out.getD (m - low - 1) (0, 0) := by
        unfold lastP
        rw [← L.len, List.getD_eq_getElem?_getD]
        simp [List.getLastD_eq_getLast?, List.getLast?_eq_getElem?]
      have hlm : lastP l.out ∈ l.out := by
        rw [hlast, List.getD_eq_getElem?_getD, List.getElem?_eq_getElem (by rw [L.len]; omega)]
        exact List.getElem_mem _
      have lo1 := (L.lt _ hlm).ext U.ext
      obtain ⟨J1, J2, J3, J4⟩ := joinRs_ok (lastP l.out) U.ok U.nl lo1 u.out U.lt
      have hjl := joinRs_len u.rs (lastP l.out) u.out
      have eAll : Ext l.rs (joinRs u.rs (lastP l.out) u.out) := U.ext.trans J1
      refine ⟨L.ext.trans eAll, J2, J3, ?_, ?_, fun p q => ?_, fun ws j hj => ?_⟩
      · show (l.out ++ joinOut u.rs.length u.out.length).length = _
        rw [List.length_append, L.len]
        unfold joinOut
        rw [List.length_map, List.length_range, U.len]
        omega
      · show (joinRs u.rs (lastP l.out) u.out).length ≤ _
        have h1 := L.size
        have h2 := U.size
        have h3 := U.len
        rw [hjl, h3]
        have hxy : high - low = (m - low) + (high - m) := by omega
        have hx1 : 1 ≤ m - low := by omega
        rw [hxy]
        generalize m - low = x at h1 hx1 ⊢
        generalize high - m = y at h2 ⊢
        have h5 : y ≤ x * y := Nat.le_mul_of_pos_left y hx1
        have h6 : 3 * (x + y) * (x + y) = 3 * x * x + 3 * y * y + 6 * (x * y) := by grind
        rw [h6]
        omega
      · rcases List.mem_append.mp q with z | z
        · exact (L.lt p z).ext eAll
        · obtain ⟨i, hi, rfl⟩ := List.mem_map.mp z
          have hi := List.mem_range.mp hi
          unfold LtP
          rw [hjl]
          dsimp only
          omega
      · show bitP ws (joinRs u.rs (lastP l.out) u.out) ((l.out ++ joinOut u.rs.length u.out.length).getD j (0, 0)) = _
        by_cases cj : j < m - low
        · have e1 : (l.out ++ joinOut u.rs.length u.out.length).getD j (0, 0) = l.out.getD j (0, 0) := by
            rw [List.getD_eq_getElem?_getD, List.getElem?_append_left (by rw [L.len]; exact cj), ← List.getD_eq_getElem?_getD]
          have e2 : l.out.getD j (0, 0) ∈ l.out := by
            rw [List.getD_eq_getElem?_getD, List.getElem?_eq_getElem (by rw [L.len]; exact cj)]
            exact List.getElem_mem _
          rw [e1, eAll.bitP ws (L.lt _ e2), L.bits ws j cj]
        · obtain ⟨i, hi⟩ : ∃ i, j = (m - low) + i := ⟨j - (m - low), by omega⟩
          have hiu : i < u.out.length := by rw [U.len]; omega
          have e1 : (l.out ++ joinOut u.rs.length u.out.length).getD j (0, 0) = (u.rs.length + 3 * i + 1, u.rs.length + 3 * i + 2) := by
            rw [List.getD_eq_getElem?_getD, List.getElem?_append_right (by rw [L.len]; omega), L.len, hi, Nat.add_sub_cancel_left]
            unfold joinOut
            rw [List.getElem?_map, List.getElem?_range hiu]
            rfl
          have hju := J4 i u.out[i] (List.getElem?_eq_getElem hiu)
          have eu : u.out[i] = u.out.getD i (0, 0) := by
            rw [List.getD_eq_getElem?_getD, List.getElem?_eq_getElem hiu]
            rfl
          have mu : u.out[i] ∈ u.out := List.getElem_mem _
          rw [e1, hju.bits J2 ws, J1.bitP ws (U.lt _ mu), J1.bitP ws lo1, eu, U.bits ws i (by rw [← U.len]; exact hiu), U.ext.bitP ws (L.lt _ hlm), hlast, L.bits ws (m - low - 1) (by omega)]
          have e2 : (prs.drop low).take (j + 1) = (prs.drop low).take (m - low - 1 + 1) ++ (prs.drop m).take (i + 1) := by
            rw [show j + 1 = (m - low) + (i + 1) by omega, List.take_add, List.drop_drop, show low + (m - low) = m by omega, show m - low - 1 + 1 = m - low by omega]
          rw [e2, List.map_append]
          have e3 : ((prs.drop m).take (i + 1)).map (bitP ws rs) = ((prs.drop m).take (i + 1)).map (bitP ws l.rs) := List.map_congr_left fun p q => (L.ext.bitP ws (hlt p (List.mem_of_mem_drop (List.mem_of_mem_take q)))).symm
          rw [e3]
          refine (combL_app (fun g q => ?_) (fun g q => ?_)).symm
          · obtain ⟨p, _, rfl⟩ := List.mem_map.mp q
            exact bitP_01 ok ws p
          · obtain ⟨p, _, rfl⟩ := List.mem_map.mp q
            exact bitP_01 L.ok ws p
theorem bndF_len (ns : List Int) : ∀ (f a low high : Nat), low ≤ high → high - low < f → (bndF ns f a low high).ds.length = high - low
  | 0, _, _, _, _, h => absurd h (Nat.not_lt_zero _)
  | f + 1, a, low, high, hlh, hf => by
    unfold bndF
    by_cases c : high - low < 2
    · rw [if_pos c]
      exact List.length_replicate ..
    · rw [if_neg c]
      have hm := partM_in ns a (low := low) (high := high) (by omega)
      dsimp only
      rw [List.length_append, List.length_map, bndF_len ns f _ _ _ (by omega) (by omega), bndF_len ns f _ _ _ (by omega) (by omega)]
      omega
theorem bndF_nn (ns : List Int) : ∀ (f a low high : Nat), ∀ d ∈ (bndF ns f a low high).ds, 0 ≤ d
  | 0, _, _, _, d, h => by cases h
  | f + 1, a, low, high, d, h => by
    unfold bndF at h
    by_cases c : high - low < 2
    · rw [if_pos c] at h
      rw [(List.mem_replicate.mp h).2]
      exact Int.le_refl 0
    · rw [if_neg c] at h
      dsimp only at h
      rcases List.mem_append.mp h with z | z
      · exact bndF_nn ns f _ _ _ d z
      · obtain ⟨e, he, rfl⟩ := List.mem_map.mp z
        have := bndF_nn ns f _ _ _ e he
        unfold topI
        split <;> omega
theorem bndF_a {ns : List Int} {prs : List (Nat × Nat)} : ∀ (f a low high : Nat) (rs : List Row), (strF ns prs f rs a low high).a = (bndF ns f a low high).a
  | 0, _, _, _, _ => rfl
  | f + 1, a, low, high, rs => by
    unfold strF bndF
    by_cases c : high - low < 2
    · rw [if_pos c, if_pos c]
    · rw [if_neg c, if_neg c]
      dsimp only
      rw [bndF_a f, bndF_a f]
theorem lastI_get {l : List Int} {n : Nat} (h : l.length = n) (hn : 0 < n) : l.getLastD 0 = l.getD (n - 1) 0 := by
  rw [← h, List.getD_eq_getElem?_getD]
  simp [List.getLastD_eq_getLast?, List.getLast?_eq_getElem?]
theorem lastP_get {l : List (Nat × Nat)} {n : Nat} (h : l.length = n) : lastP l = l.getD (n - 1) (0, 0) := by
  unfold lastP
  rw [← h, List.getD_eq_getElem?_getD]
  simp [List.getLastD_eq_getLast?, List.getLast?_eq_getElem?]
def DepP (R : List Row) (p : Nat × Nat) (d : Int) : Prop := dep R p.1 ≤ d ∧ dep R p.2 ≤ d
theorem DepP.ext {R R' : List Row} {p : Nat × Nat} {d : Int} (h : DepP R p d) (e : Ext R R') (l : LtP R p) : DepP R' p d := by
  unfold DepP
  rw [e.dep l.1, e.dep l.2]
  exact h
theorem strF_deep {N : Str → Prop} (ns : List Int) (prs : List (Nat × Nat)) : ∀ (f : Nat) (rs : List Row) (a low high : Nat), low ≤ high → high ≤ prs.length → high - low < f → RowsOk N rs → NoLats rs → (∀ p ∈ prs, LtP rs p) → (∀ p ∈ prs, DepP rs p 0) →
    ∀ j, j < high - low → DepP (strF ns prs f rs a low high).rs ((strF ns prs f rs a low high).out.getD j (0, 0)) ((bndF ns f a low high).ds.getD j 0)
  | 0, _, _, _, _, _, _, h, _, _, _, _ => absurd h (Nat.not_lt_zero _)
  | f + 1, rs, a, low, high, hlh, hp, hf, ok, nl, hlt, hd => by
    intro j hj
    by_cases c : high - low < 2
    · unfold strF bndF
      rw [if_pos c, if_pos c]
      have hl : low + j < prs.length := by omega
      have e1 : ((prs.drop low).take (high - low)).getD j (0, 0) = prs[low + j] := by
        rw [List.getD_eq_getElem?_getD, List.getElem?_take, if_pos hj, List.getElem?_drop, List.getElem?_eq_getElem hl]
        rfl
      have e2 : (List.replicate (high - low) (0 : Int)).getD j 0 = 0 := by
        rw [List.getD_eq_getElem?_getD, List.getElem?_replicate, if_pos hj]
        rfl
      dsimp only
      rw [e1, e2]
      exact hd _ (List.getElem_mem hl)
    · have hm := partM_in ns a (low := low) (high := high) (by omega)
      have L := strF_ok ns prs f rs (partA ns a) low (partM ns a low high) (by omega) (by omega) (by omega) ok nl hlt
      have Ld := strF_deep ns prs f rs (partA ns a) low (partM ns a low high) (by omega) (by omega) (by omega) ok nl hlt hd
      have hla := bndF_a (ns := ns) (prs := prs) f (partA ns a) low (partM ns a low high) rs
      have U := strF_ok ns prs f (strF ns prs f rs (partA ns a) low (partM ns a low high)).rs (strF ns prs f rs (partA ns a) low (partM ns a low high)).a (partM ns a low high) high (by omega) hp (by omega) L.ok L.nl (fun p q => (hlt p q).ext L.ext)
      have Ud := strF_deep ns prs f (strF ns prs f rs (partA ns a) low (partM ns a low high)).rs (strF ns prs f rs (partA ns a) low (partM ns a low high)).a (partM ns a low high) high (by omega) hp (by omega) L.ok L.nl (fun p q => (hlt p q).ext L.ext) (fun p q => (hd p q).ext L.ext (hlt p q))
      have bl := bndF_len ns f (partA ns a) low (partM ns a low high) (by omega) (by omega)
      have bu := bndF_len ns f (bndF ns f (partA ns a) low (partM ns a low high)).a (partM ns a low high) high (by omega) (by omega)
      rw [hla] at U Ud
      unfold strF bndF
      rw [if_neg c, if_neg c]
      dsimp only
      rw [hla]
      generalize bndF ns f (bndF ns f (partA ns a) low (partM ns a low high)).a (partM ns a low high) high = bu' at *
      generalize strF ns prs f (strF ns prs f rs (partA ns a) low (partM ns a low high)).rs (bndF ns f (partA ns a) low (partM ns a low high)).a (partM ns a low high) high = u at *
      generalize strF ns prs f rs (partA ns a) low (partM ns a low high) = l at *
      generalize bndF ns f (partA ns a) low (partM ns a low high) = bl' at *
      generalize partM ns a low high = m at *
      have hlm : l.out.getD (m - low - 1) (0, 0) ∈ l.out := by
        rw [List.getD_eq_getElem?_getD, List.getElem?_eq_getElem (by rw [L.len]; omega)]
        exact List.getElem_mem _
      have hlast := lastP_get L.len
      have lo1 : LtP u.rs (lastP l.out) := by rw [hlast]; exact (L.lt _ hlm).ext U.ext
      obtain ⟨J1, J2, J3, J4⟩ := joinRs_ok (lastP l.out) U.ok U.nl lo1 u.out U.lt
      have eAll : Ext l.rs (joinRs u.rs (lastP l.out) u.out) := U.ext.trans J1
      by_cases cj : j < m - low
      · have e1 : (l.out ++ joinOut u.rs.length u.out.length).getD j (0, 0) = l.out.getD j (0, 0) := by
          rw [List.getD_eq_getElem?_getD, List.getElem?_append_left (by rw [L.len]; exact cj), ← List.getD_eq_getElem?_getD]
        have e2 : l.out.getD j (0, 0) ∈ l.out := by
          rw [List.getD_eq_getElem?_getD, List.getElem?_eq_getElem (by rw [L.len]; exact cj)]
          exact List.getElem_mem _
        have e3 : (bl'.ds ++ bu'.ds.map fun d => 2 + topI d (bl'.ds.getLastD 0)).getD j 0 = bl'.ds.getD j 0 := by
          rw [List.getD_eq_getElem?_getD, List.getElem?_append_left (by rw [bl]; exact cj), ← List.getD_eq_getElem?_getD]
        rw [e1, e3]
        exact (Ld j cj).ext eAll (L.lt _ e2)
      · obtain ⟨i, hi⟩ : ∃ i, j = (m - low) + i := ⟨j - (m - low), by omega⟩
        have hiu : i < u.out.length := by rw [U.len]; omega
        have hib : i < bu'.ds.length := by rw [bu]; omega
        have e1 : (l.out ++ joinOut u.rs.length u.out.length).getD j (0, 0) = (u.rs.length + 3 * i + 1, u.rs.length + 3 * i + 2) := by
          rw [List.getD_eq_getElem?_getD, List.getElem?_append_right (by rw [L.len]; omega), L.len, hi, Nat.add_sub_cancel_left]
          unfold joinOut
          rw [List.getElem?_map, List.getElem?_range hiu]
          rfl
        have e3 : (bl'.ds ++ bu'.ds.map fun d => 2 + topI d (bl'.ds.getLastD 0)).getD j 0 = 2 + topI (bu'.ds.getD i 0) (bl'.ds.getLastD 0) := by
          rw [List.getD_eq_getElem?_getD, List.getElem?_append_right (by rw [bl]; omega), bl, hi, Nat.add_sub_cancel_left, List.getElem?_map, List.getD_eq_getElem?_getD, List.getElem?_eq_getElem hib]
          rfl
        have hju := J4 i u.out[i] (List.getElem?_eq_getElem hiu)
        have eu : u.out[i] = u.out.getD i (0, 0) := by
          rw [List.getD_eq_getElem?_getD, List.getElem?_eq_getElem hiu]
          rfl
        have mu : u.out[i] ∈ u.out := List.getElem_mem _
        have du := (Ud i (by rw [← U.len]; exact hiu)).ext J1 (by rw [← eu]; exact U.lt _ mu)
        have dl := ((Ld (m - low - 1) (by omega)).ext U.ext (L.lt _ hlm)).ext J1 ((L.lt _ hlm).ext U.ext)
        rw [← hlast] at dl
        rw [← eu] at du
        have hbl := lastI_get bl (by omega)
        rw [← hbl] at dl
        rw [e1, e3]
        have t1 : bu'.ds.getD i 0 ≤ topI (bu'.ds.getD i 0) (bl'.ds.getLastD 0) ∧ bl'.ds.getLastD 0 ≤ topI (bu'.ds.getD i 0) (bl'.ds.getLastD 0) := by unfold topI; split <;> omega
        exact hju.deep J2 (Int.le_trans du.1 t1.1) (Int.le_trans du.2 t1.1) (Int.le_trans dl.1 t1.2) (Int.le_trans dl.2 t1.2)

/-- a comprehension over a list that stands, by an invariant of the list made so far and the heap -/
theorem lc_inv {K : PySem.W.Frag} {σ : L2.St} {H : Hp} {Q : VK} {te : TE} {vs : List Nat} {a : Addr} {j : Nat} (xs : List V) (P : Addr → Nat → List V → Hp → Prop) (hz : xs.length ≤ 1000000) (h0 : ∀ D, H D = none → P D 0 [] (upd H D (.lst [])))
    (hl : ∀ D i ys H', P D i ys H' → SqL K H' a xs ∧ ys.length ≤ i) (hw : ∀ x, wipe ((wipe σ vs).set j (some x)) vs = wipe σ vs)
    (he : ∀ D (i : Nat) x ys H' (Q' : VK), H D = none → xs[i]? = some x → P D i ys H' → (∀ y H4, H4 D = some (.lst ys) → P D (i + 1) (ys ++ [y]) (upd H4 D (.lst (ys ++ [y]))) → Q' y H4) → te ((wipe σ vs).set j (some x)) H' Q')
    (q : ∀ D ys H', H D = none → P D xs.length ys H' → Q (.ref D) H') : LcB (Itl K a) (gName j) tYes te vs σ Q H := fun D hD =>
  lc_list (xs := xs) (fun i H' => ∃ ys : List V, P D i ys H') ⟨[], h0 D hD⟩ (fun i H' _ e => by
    obtain ⟨ys, p⟩ := e
    exact (hl D i ys H' p).1) (fun i x H' hx e => by
    obtain ⟨ys, p⟩ := e
    have hi := (List.getElem?_eq_some_iff.mp hx).1
    have hyl := (hl D i ys H' p).2
    show wipe ((wipe σ vs).set j (some x)) vs = wipe σ vs ∧ te ((wipe σ vs).set j (some x)) H' (fun y H4 => ∃ acc, H4 D = some (.lst acc) ∧ acc.length < sizeLine ∧ ∃ zs : List V, P D (i + 1) zs (upd H4 D (.lst (acc ++ [y]))))
    refine ⟨hw _, he D i x ys H' _ hD hx p fun y H4 e1 e2 => ⟨ys, e1, ?_, _, e2⟩⟩
    exact Nat.lt_of_lt_of_le (show ys.length < 16777216 by omega) (by rw [sizeLine_eq]; exact Nat.le_refl _)) fun H' e => by
    obtain ⟨ys, p⟩ := e
    exact q D ys H' hD p

theorem w_fldaug {K : PySem.W.Frag} {D : Ends} {σ : L2.St} {H : Hp} {n : Nat} {a C dx : Addr} {fs : List (Str × V)} {f : Str} {i j : Int} (hx : σ[n]? = some (some (.ref a))) (h : H a = some (.ins C dx fs)) (c : Cls K C) (na : NoAttr K C f) (e : fs.lookup f = some (.int i)) (l : fs.length < 1000)
    (q : D.nx σ (upd H a (.ins C dx (putF f (.int (i + j)) fs)))) : sFldAug K (tVar n) (tC (.int j)) rAdd f D σ H :=
  ⟨_, hx, a, C, dx, fs, _, rfl, h, c, na, e, i, j, rfl, rfl, dx, fs, h, l, q⟩
local macro_rules | `(tactic| walk_at "w1") => `(tactic| ((with_reducible apply w_fldaug); rfl; (walk_at "hp"); assumption; assumption; (walk_at "lk"); (exact Nat.le_of_ble_eq_true rfl)))

theorem RowsM.fresh {H : Hp} {a x : Addr} {rs : List Row} (h : RowsM H a rs) (n : H x = none) : x ≠ a := fun z => by
  obtain ⟨_, e, _⟩ := h
  rw [← z, n] at e
  cases e
theorem nin_cons {x r : Addr} {ps : List Addr} (h : x ≠ r) (k : x ∉ ps) : x ∉ r :: ps := fun z => by
  rcases List.mem_cons.mp z with z | z
  · exact h z
  · exact k z
theorem atI_lastR {qs : List Addr} {q : Addr} (h : qs[qs.length - 1]? = some q) : atI (qs.map V.ref) (-1) = some (.ref q) := by
  have hne : qs ≠ [] := fun z => by rw [z] at h; cases h
  obtain ⟨r, x, rfl⟩ : ∃ r x, qs = r ++ [x] := ⟨qs.dropLast, qs.getLast hne, (List.dropLast_concat_getLast hne).symm⟩
  rw [List.length_append, List.length_singleton, Nat.add_sub_cancel, List.getElem?_append_right (Nat.le_refl _), Nat.sub_self] at h
  cases h
  rw [List.map_append]
  exact atI_last _ _

theorem valI_lt : ∀ {bs : List Int}, (∀ x ∈ bs, is01 x) → 0 ≤ valI bs ∧ valI bs < 2 ^ bs.length
  | [], _ => ⟨Int.le_refl 0, by decide⟩
  | b :: r, h => by
    have ih := valI_lt (bs := r) fun x m => h x (List.mem_cons_of_mem _ m)
    have hb := h b (List.mem_cons_self ..)
    show 0 ≤ b + 2 * valI r ∧ b + 2 * valI r < 2 ^ (r.length + 1)
    rw [Int.pow_succ]
    rcases hb with z | z <;> omega
theorem bitsI_valI {bs : List Int} : (∀ x ∈ bs, is01 x) → bitsI (valI bs) bs.length = bs := by
  revert bs
  apply list_snoc_ind (P := fun bs => (∀ x ∈ bs, is01 x) → bitsI (valI bs) bs.length = bs)
  · intro _; rfl
  · intro bs b ih h
    have h1 : ∀ x ∈ bs, is01 x := fun x m => h x (List.mem_append_left _ m)
    have hb := h b (List.mem_append_right _ (List.mem_cons_self ..))
    have hv := valI_lt h1
    rw [List.length_append, List.length_singleton, valI_snoc, bitsI_succ, bitsI_shift, ih h1]
    congr 2
    rw [Int.add_mul_ediv_right _ _ (Int.ne_of_gt (p2pos _)), Int.ediv_eq_zero_of_lt hv.1 hv.2, Int.zero_add]
    rcases hb with z | z <;> rw [z] <;> rfl

def lin (f : Nat → Int) (k : Nat) (xs : List Nat) : Int := (xs.map fun w => f w * (1 * 2 ^ k)).sum
theorem lin_snoc (f : Nat → Int) (k : Nat) (xs : List Nat) (w : Nat) : lin f k (xs ++ [w]) = lin f k xs + f w * (1 * 2 ^ k) := by
  unfold lin
  rw [List.map_append, List.sum_append]
  simp only [List.map_cons, List.map_nil, List.sum_cons, List.sum_nil, Int.add_zero]
def worthN (f : Nat → Int) (cols : List (List Nat)) : Nat → Int
  | 0 => 0
  | n + 1 => worthN f cols n + lin f n (cols.getD n [])
/-- a column's bits -/
def colS (f : Nat → Int) (xs : List Nat) : Int := (xs.map f).sum
theorem lin_colS (f : Nat → Int) (k : Nat) : ∀ xs : List Nat, lin f k xs = colS f xs * 2 ^ k
  | [] => by unfold lin colS; simp
  | x :: r => by
    have ih := lin_colS f k r
    unfold lin colS at *
    simp only [List.map_cons, List.sum_cons, Int.add_mul]
    rw [ih, Int.one_mul]
theorem colS_snoc (f : Nat → Int) (xs : List Nat) (w : Nat) : colS f (xs ++ [w]) = colS f xs + f w := by
  unfold colS
  simp
theorem worthN_set (f : Nat → Int) (cols : List (List Nat)) (k : Nat) (xs : List Nat) (hk : k < cols.length) : ∀ n : Nat, worthN f (cols.set k xs) n = worthN f cols n + (if k < n then (colS f xs - colS f (cols.getD k [])) * 2 ^ k else 0)
  | 0 => by simp [worthN]
  | n + 1 => by
    have ih := worthN_set f cols k xs hk n
    unfold worthN
    rw [ih, lin_colS, lin_colS]
    by_cases c : k = n
    · subst c
      rw [if_neg (Nat.lt_irrefl _), if_pos (Nat.lt_succ_self _)]
      have e : (cols.set k xs).getD k [] = xs := by simp [List.getD_eq_getElem?_getD, hk]
      rw [e, Int.sub_mul]
      omega
    · have e : (cols.set k xs).getD n [] = cols.getD n [] := by simp [List.getD_eq_getElem?_getD, List.getElem?_set, c]
      rw [e]
      by_cases c2 : k < n
      · rw [if_pos c2, if_pos (by omega)]; omega
      · rw [if_neg c2, if_neg (by omega)]; omega
theorem worthN_addC (f : Nat → Int) (cols : List (List Nat)) (k w : Nat) {n : Nat} (hn : cols.length = n) : worthN f (addC cols k w) n = worthN f cols n + (if k < n then f w * 2 ^ k else 0) := by
  unfold addC
  cases e : cols[k]? with
  | some xs =>
    have hk := (List.getElem?_eq_some_iff.mp e).1
    show worthN f (cols.set k (xs ++ [w])) n = _
    rw [worthN_set f cols k _ hk, colS_snoc, List.getD_eq_getElem?_getD, e]
    show worthN f cols n + (if k < n then (colS f xs + f w - colS f xs) * 2 ^ k else 0) = _
    rw [show colS f xs + f w - colS f xs = f w by omega]
  | none =>
    have := List.getElem?_eq_none_iff.mp e
    show worthN f cols n = _
    rw [if_neg (by omega)]
    omega

/-! splits, stretches -/
def SplitsAt (K : PySem.W.Frag) (H : Hp) (s nl : Addr) (a : Nat) (ns : List Int) : Prop := (∃ C dx, H s = some (.ins C dx [("numbers", .ref nl), ("at", .int (a : Int))]) ∧ IsC K "Splits" C) ∧ H nl = some (.lst (ns.map V.int))
theorem SplitsAt.same {H H' : Hp} {s nl : Addr} {a : Nat} {ns : List Int} (sm : Same H H') (h : SplitsAt K H s nl a ns) : SplitsAt K H' s nl a ns := by
  obtain ⟨⟨C, dx, h1, h2⟩, h3⟩ := h
  exact ⟨⟨C, dx, sm _ _ h1, h2⟩, sm _ _ h3⟩
theorem SplitsAt.fr {ms : List Addr} {H H' : Hp} {s nl : Addr} {a : Nat} {ns : List Int} (f : Fr ms H H') (n1 : s ∉ ms) (n2 : nl ∉ ms) (h : SplitsAt K H s nl a ns) : SplitsAt K H' s nl a ns := by
  obtain ⟨⟨C, dx, h1, h2⟩, h3⟩ := h
  exact ⟨⟨C, dx, f _ _ h1 n1, h2⟩, f _ _ h3 n2⟩
def sp_Splits__init (K : PySem.W.Frag) : Sp := fun vs H Q _ => ∃ (s C dx a : Addr) (ns : List Int), vs = [.ref s, .ref a] ∧ H s = some (.ins C dx []) ∧ IsC K "Splits" C ∧ H a = some (.lst (ns.map V.int)) ∧ ∀ nl H1, H nl = none → SplitsAt K H1 s nl 0 ns → Fr [s] H H1 → Q .non H1
theorem ok_Splits__init (T : Top K mg) : FnOk P w K mg base CX0 1 T.a_Splits__init T.d_Splits__init ["self", "numbers"] (sp_Splits__init K) := by
  refine T.f_Splits__init.ok sc_Splits__init (fun vs H Q E h => ?_) (fun cdv A outer s H vs Q E hr h => ?_)
  · obtain ⟨s, C, dx, a, ns, rfl, _⟩ := h
    rfl
  obtain ⟨s, C, dx, a, ns, rfl, h⟩ := h
  refine ⟨_, (pss_cons (ps_fld (pv 0) (pe_callTy (c_listK K) (by rfl) T.z_list (by decide +kernel) (pa_cons (pv 1) pa_nil)) rfl)
      (pss_one (ps_fld (pv 0) pe_int rfl))), ?_⟩
  try dsimp only [cxOf, Cx.nox, Cx.wish]
  simp only [L2.start, List.map_cons, List.map_nil, List.length_cons, List.length_nil, Nat.reduceAdd, Nat.reduceSub, List.replicate_succ, List.replicate_zero, List.cons_append, List.nil_append]
  obtain ⟨hs, hC, ha, h⟩ := h
  obtain rfl := hC.one T.nc_Splits
  have c1 := T.cl_Splits
  have c2 := T.n_Splits_numbers
  have c3 := T.n_Splits_at
  walk_at "ws"
  rename_i nl H1 n1 s1 e1
  have hs1 := s1 _ _ hs
  have nls : nl ≠ s := fun z => by rw [z, hs] at n1; cases n1
  walk_at "ws"
  refine h nl _ n1 ⟨⟨_, dx, upd_same, hC⟩, ?_⟩ (((Fr.of s1).trans (Fr.put (List.mem_cons_self ..))).trans (Fr.put (List.mem_cons_self ..)))
  rw [upd_ne nls, upd_ne nls]
  exact e1
def sp_Splits_part (K : PySem.W.Frag) : Sp := fun vs H Q _ => ∃ (s nl : Addr) (a low high : Nat) (ns : List Int), vs = [.ref s, .int (low : Int), .int (high : Int)] ∧ SplitsAt K H s nl a ns ∧ low + 2 ≤ high ∧ ∀ H', SplitsAt K H' s nl (partA ns a) ns → Fr [s] H H' → Q (.int (partM ns a low high : Nat)) H'
theorem ok_Splits_part (T : Top K mg) : FnOk P w K mg base CX0 1 T.a_Splits_part T.d_Splits_part ["self", "low", "high"] (sp_Splits_part K) := by
  refine T.f_Splits_part.ok sc_Splits_part (fun vs H Q E h => ?_) (fun cdv A outer s H vs Q E hr h => ?_)
  · obtain ⟨s, nl, a, low, high, ns, rfl, _⟩ := h
    rfl
  obtain ⟨s, nl, a, low, high, ns, rfl, h⟩ := h
  refine ⟨_, (pss_cons (ps_if (pt_cmpR op_eq (pe_callB (c_lenK K) (by rfl) T.z_len PySem.boot_len (pa_cons (pe_fld (pv 0) rfl) pa_nil)) pe_int (nomark _)) (pss_one (ps_ret (pe_op op_fdiv (pe_op op_add (pv 1) (pv 2)) pe_int))) pss_nil)
      (pss_cons (ps_set (i := 3) sc_Splits_part.nd rfl (.inl rfl) (pe_ix (ix_listK K) (pe_fld (pv 0) rfl) (pe_op op_mod (pe_fld (pv 0) rfl) (pe_callB (c_lenK K) (by rfl) T.z_len PySem.boot_len (pa_cons (pe_fld (pv 0) rfl) pa_nil))) (fun _ _ => rfl)))
      (pss_cons (ps_fldaug (pv 0) pe_int in_add)
      (pss_one (ps_ret (pe_op op_add (pe_op op_add (pv 1) pe_int) (pe_op op_mod (pv 3) (pe_op op_sub (pe_op op_sub (pv 2) (pv 1)) pe_int)))))))), ?_⟩
  try dsimp only [cxOf, Cx.nox, Cx.wish]
  simp only [L2.start, List.map_cons, List.map_nil, List.length_cons, List.length_nil, Nat.reduceAdd, Nat.reduceSub, List.replicate_succ, List.replicate_zero, List.cons_append, List.nil_append]
  obtain ⟨hsp, hlh, h⟩ := h
  obtain ⟨⟨C, dx, hs, hC⟩, hn⟩ := id hsp
  obtain rfl := hC.one T.nc_Splits
  have c1 := T.cl_Splits
  have c2 := T.n_Splits_numbers
  have c3 := T.n_Splits_at
  have hnl : (ns.map V.int).length = ns.length := List.length_map ..
  have nls : nl ≠ s := fun z => by rw [z, hs] at hn; cases hn
  walk_at "ws"
  · have e0 : ns.length = 0 := by omega
    have e1 : partM ns a low high = (low + high) / 2 := by unfold partM; rw [if_pos e0]
    have e2 : partA ns a = a := by unfold partA; rw [if_pos e0]
    rw [e1, e2] at h
    have e3 : ((low : Int) + high) / 2 = (((low + high) / 2 : Nat) : Int) := by omega
    rw [e3]
    exact h _ hsp Fr.refl
  · have hpos : 0 < ns.length := by omega
    have ej : (a : Int) % ((ns.map V.int).length : Int) = ((a % ns.length : Nat) : Int) := by
      rw [hnl]
      exact (Int.natCast_emod ..).symm
    have hj : a % ns.length < ns.length := Nat.mod_lt _ hpos
    rw [ej]
    refine w_ixL (SqL.of hn) (get_int hj) ?_
    walk_at "ws"
    have hm0 := Int.emod_nonneg ns[a % ns.length] (show ((high : Int) - low - 1) ≠ 0 by omega)
    have hm1 := Int.emod_lt_of_pos ns[a % ns.length] (show (0 : Int) < ((high : Int) - low - 1) by omega)
    have e1 : partM ns a low high = low + 1 + (ns[a % ns.length] % ((high : Int) - low - 1)).toNat := by
      unfold partM
      rw [if_neg (by omega), List.getD_eq_getElem?_getD, List.getElem?_eq_getElem hj]
      rfl
    have e2 : partA ns a = a + 1 := by unfold partA; rw [if_neg (by omega)]
    rw [e1, e2] at h
    have e3 : (low : Int) + 1 + ns[a % ns.length] % ((high : Int) - low - 1) = ((low + 1 + (ns[a % ns.length] % ((high : Int) - low - 1)).toNat : Nat) : Int) := by omega
    rw [e3]
    exact h _ ⟨⟨_, dx, by rw [upd_same]; rfl, hC⟩, by rw [upd_ne nls]; exact hn⟩ (Fr.put (List.mem_cons_self ..))
theorem cut_mid (xs : List V) {l h : Nat} (hl : l ≤ h) (hh : h ≤ xs.length) : cutV xs (some (l : Int)) (some (h : Int)) = (xs.drop l).take (h - l) := by
  unfold cutV
  rw [HT.sIx_nat, HT.sIx_nat, Nat.min_eq_left (Nat.le_trans hl hh), Nat.min_eq_left hh]
def PairR (H : Hp) (p : Addr) (pr : Nat × Nat) : Prop := PairAt H p pr.1 pr.2
theorem PairR.same {H H' : Hp} {p : Addr} {pr : Nat × Nat} (h : PairR H p pr) (s : Same H H') : PairR H' p pr := s _ _ h
theorem PairR.fr {ms : List Addr} {H H' : Hp} {p : Addr} {pr : Nat × Nat} (h : PairR H p pr) (f : Fr ms H H') (n : ∀ a xs, H a = some (.tup xs) → a ∉ ms) : PairR H' p pr := f _ _ h (n _ _ h)
theorem tn_of {H : Hp} {r s nl : Addr} {rs : List Row} {a : Nat} {ns : List Int} (hM : RowsM H r rs) (hs : SplitsAt K H s nl a ns) : ∀ b xs, H b = some (.tup xs) → b ∉ [r, s] := fun b xs e m => by
  rcases List.mem_cons.mp m with z | z
  · obtain ⟨_, e2, _⟩ := hM
    rw [z, e2] at e; cases e
  · obtain ⟨⟨C, dx, e2, _⟩, _⟩ := hs
    rw [List.mem_singleton.mp z, e2] at e; cases e
theorem joinOut_len (n k : Nat) : (joinOut n k).length = k := by unfold joinOut; rw [List.length_map, List.length_range]
theorem A2.append {α β : Type} {R : α → β → Prop} {a b : List α} {c d : List β} (h : A2 R a c) (k : A2 R b d) : A2 R (a ++ b) (c ++ d) := by
  refine ⟨by rw [List.length_append, List.length_append, h.1, k.1], fun i x y hx hy => ?_⟩
  by_cases q : i < a.length
  · rw [List.getElem?_append_left q] at hx
    rw [List.getElem?_append_left (by rw [← h.1]; exact q)] at hy
    exact h.2 i x y hx hy
  · rw [List.getElem?_append_right (by omega)] at hx
    rw [List.getElem?_append_right (by rw [← h.1]; omega), ← h.1] at hy
    exact k.2 _ x y hx hy
theorem A2.takeK {α β : Type} {R : α → β → Prop} {xs : List α} {ys : List β} (h : A2 R xs ys) (n : Nat) : A2 R (xs.take n) (ys.take n) := by
  refine ⟨by rw [List.length_take, List.length_take, h.1], fun i x y hx hy => ?_⟩
  rw [List.getElem?_take] at hx hy
  split at hx
  · rename_i c
    rw [if_pos c] at hy
    exact h.2 i x y hx hy
  · cases hx
theorem A2.dropK {α β : Type} {R : α → β → Prop} {xs : List α} {ys : List β} (h : A2 R xs ys) (n : Nat) : A2 R (xs.drop n) (ys.drop n) := by
  refine ⟨by rw [List.length_drop, List.length_drop, h.1], fun i x y hx hy => ?_⟩
  rw [List.getElem?_drop] at hx hy
  exact h.2 _ x y hx hy
def sp_stretch (K : PySem.W.Frag) (n : Nat) : Sp := fun vs H Q _ => ∃ (sh r pl spl nl : Addr) (a low high : Nat) (ns : List Int) (prs : List (Nat × Nat)) (ps : List Addr) (rs : List Row) (N : Str → Prop), vs = [.ref sh, .ref pl, .int (low : Int), .int (high : Int), .ref spl] ∧ low ≤ high ∧ high ≤ prs.length ∧ prs.length ≤ 70 ∧ high - low < n ∧ SheetAt K H sh r ∧ RowsM H r rs ∧ H pl = some (.lst (ps.map V.ref)) ∧ A2 (PairR H) ps prs ∧ SplitsAt K H spl nl a ns ∧ pl ≠ r ∧ nl ≠ r ∧ RowsOk N rs ∧ NoLats rs ∧ (∀ p ∈ prs, LtP rs p) ∧ rs.length ≤ 600000 + 3 * low * low ∧
  ∀ p qs H', H p = none → H' p = some (.lst (qs.map V.ref)) → A2 (PairR H') qs (strF ns prs n rs a low high).out → SplitsAt K H' spl nl (strF ns prs n rs a low high).a ns → SheetAt K H' sh r → RowsM H' r (strF ns prs n rs a low high).rs → Fr [r, spl] H H' → Q (.ref p) H'
theorem no_stretch {vs : List V} {H : Hp} {Q : VK} {E : XK} (h : sp_stretch K 0 vs H Q E) : False := by
  obtain ⟨_, _, _, _, _, _, _, _, _, _, _, _, _, _, _, _, _, z, _⟩ := h
  exact absurd z (Nat.not_lt_zero _)
theorem rec_stretch (T : Top K mg) (n : Nat) (ih : FnOk P w K mg base CX0 (3 + n) T.a_stretch T.d_stretch ["sheet", "pairs", "low", "high", "splits"] (sp_stretch K n)) : FnOk P w K mg base CX0 (3 + n + 1) T.a_stretch T.d_stretch ["sheet", "pairs", "low", "high", "splits"] (sp_stretch K (n + 1)) := by
  refine T.f_stretch.ok sc_stretch (fun vs H Q E h => ?_) (fun cdv A outer s H vs Q E hr h => ?_)
  · obtain ⟨sh, r, pl, spl, nl, a, low, high, ns, prs, ps, rs, N, rfl, _⟩ := h
    rfl
  obtain ⟨sh, r, pl, spl, nl, a, low, high, ns, prs, ps, rs, N, rfl, h⟩ := h
  refine ⟨_, (pss_cons (ps_if (pt_cmpR op_lt (pe_op op_sub (pv 3) (pv 2)) pe_int (nomark _)) (pss_one (ps_ret (pe_slice sl_list (pv 1) (po_some (pv 2)) (po_some (pv 3))))) pss_nil)
      (pss_cons (ps_set (i := 5) sc_stretch.nd rfl (.inl rfl) (pe_meth (pv 4) T.cl_Splits T.m_Splits_part (ok_Splits_part T) (hr.mono (by omega)) T.b_Splits_part .nil pass0 (pa_cons (pv 2) (pa_cons (pv 3) pa_nil))))
      (pss_cons (ps_set (i := 6) sc_stretch.nd rfl (.inr rfl) (pe_call ih hr (by rfl) T.g_stretch T.f_stretch.kp T.b_stretch .nil pass0 (pa_cons (pv 0) (pa_cons (pv 1) (pa_cons (pv 2) (pa_cons (pv 5) (pa_cons (pv 4) pa_nil)))))))
      (pss_cons (ps_set (i := 7) sc_stretch.nd rfl (.inl rfl) (pe_call ih hr (by rfl) T.g_stretch T.f_stretch.kp T.b_stretch .nil pass0 (pa_cons (pv 0) (pa_cons (pv 1) (pa_cons (pv 5) (pa_cons (pv 3) (pa_cons (pv 4) pa_nil)))))))
      (pss_one (ps_ret (pe_op op_cat (pv 6) (pe_lc (own := [("pair", 8)]) (g := gName 8) (tt := tYes) (by rfl) sc_stretch.nd (pi_list (pv 7)) (blkOk_by (N := ["sheet", "pairs", "low", "high", "splits", "middle", "lower", "upper", "pair"]) (sc := defScope s_stretch) (by decide +kernel)) (fun _ _ _ _ _ => (pg_name (i := 8) sc_stretch.nd rfl (.inl rfl))) (fun _ _ _ _ _ => pts_nil) (fun _ _ _ _ _ => (pe_call (ok_joined T) (hr.mono (by omega)) (by rfl) T.g_joined T.f_joined.kp T.b_joined .nil pass0 (pa_cons (pv 0) (pa_cons (pv 8) (pa_cons (pe_ix (ix_listK K) (pv 6) (pe_un un_neg pe_int) (fun _ _ => rfl)) pa_nil))))))))))))), ?_⟩
  try dsimp only [cxOf, Cx.nox, Cx.wish]
  simp only [L2.start, List.map_cons, List.map_nil, List.length_cons, List.length_nil, Nat.reduceAdd, Nat.reduceSub, List.replicate_succ, List.replicate_zero, List.cons_append, List.nil_append]
  obtain ⟨hlh, hhp, hpl, hf, hsh, hM, hp, hA, hsp, plr, nlr, ok, nl', hlt, hrl, h⟩ := h
  have hpm : (ps.map V.ref).length = prs.length := by rw [List.length_map, hA.1]
  obtain ⟨⟨C, dx, hs, hC⟩, hn⟩ := id hsp
  obtain rfl := hC.one T.nc_Splits
  have c1 := T.cl_Splits
  have tn := tn_of hM hsp
  walk_at "ws"
  · rename_i p1 H1 n1 s1 e1
    have c : high - low < 2 := by omega
    have eF : strF ns prs (n + 1) rs a low high = ⟨rs, a, (prs.drop low).take (high - low)⟩ := by
      unfold strF
      rw [if_pos c]
    rw [eF] at h
    rw [cut_mid _ hlh (by rw [hpm]; exact hhp), ← List.map_drop, ← List.map_take] at e1
    exact h p1 _ H1 n1 e1 ((hA.mono fun _ _ e => e.same s1).dropK low |>.takeK (high - low)) (hsp.same s1) (hsh.same s1) (hM.same s1) (Fr.of s1)
  · have c : ¬ high - low < 2 := by omega
    have hm := partM_in ns a (low := low) (high := high) (by omega)
    refine ⟨spl, nl, a, low, high, ns, rfl, hsp, by omega, fun H1 hsp1 f1 => ?_⟩
    have tn1 : ∀ b xs, H b = some (.tup xs) → b ∉ [spl] := fun b xs e m => tn b xs e (List.mem_cons_of_mem _ m)
    have rspl : r ≠ spl := fun z => by
      obtain ⟨_, e2, _⟩ := hM
      rw [z, hs] at e2; cases e2
    have plspl : pl ≠ spl := fun z => by rw [z, hs] at hp; cases hp
    have shspl : sh ≠ spl := fun z => by
      obtain ⟨C, d, e, hC2⟩ := hsh
      rw [z, hs] at e
      cases e
    have npl : ∀ {G : Hp} {rs : List Row}, RowsM G r rs → ∀ p x, p ∈ [spl] → RowAt G p x → G spl = H spl → False := fun {G rs} h p x m e eq => by
      have e : G p = some (.tup (rowV x)) := e
      rw [List.mem_singleton.mp m, eq, hs] at e
      cases e
    have hsh1 := hsh.fr f1 (by simpa using shspl)
    have hM1 := hM.fr f1 (by simpa using rspl) (fun p x m e => npl hM p x m e rfl)
    have hp1 := f1 _ _ hp (by simpa using plspl)
    have hA1 : A2 (PairR H1) ps prs := hA.mono fun _ _ e => e.fr f1 tn1
    walk_at "ws"
    refine ⟨sh, r, pl, spl, nl, partA ns a, low, partM ns a low high, ns, prs, ps, rs, N, rfl, by omega, by omega, hpl, by omega, hsh1, hM1, hp1, hA1, hsp1, plr, nlr, ok, nl', hlt, hrl, fun ql qsl H2 n2 e2 a2 sp2 sh2 M2 f2 => ?_⟩
    have eF : strF ns prs (n + 1) rs a low high = ⟨joinRs (strF ns prs n (strF ns prs n rs (partA ns a) low (partM ns a low high)).rs (strF ns prs n rs (partA ns a) low (partM ns a low high)).a (partM ns a low high) high).rs (lastP (strF ns prs n rs (partA ns a) low (partM ns a low high)).out) (strF ns prs n (strF ns prs n rs (partA ns a) low (partM ns a low high)).rs (strF ns prs n rs (partA ns a) low (partM ns a low high)).a (partM ns a low high) high).out, (strF ns prs n (strF ns prs n rs (partA ns a) low (partM ns a low high)).rs (strF ns prs n rs (partA ns a) low (partM ns a low high)).a (partM ns a low high) high).a, (strF ns prs n rs (partA ns a) low (partM ns a low high)).out ++ joinOut (strF ns prs n (strF ns prs n rs (partA ns a) low (partM ns a low high)).rs (strF ns prs n rs (partA ns a) low (partM ns a low high)).a (partM ns a low high) high).rs.length (strF ns prs n (strF ns prs n rs (partA ns a) low (partM ns a low high)).rs (strF ns prs n rs (partA ns a) low (partM ns a low high)).a (partM ns a low high) high).out.length⟩ := by
      conv => lhs; unfold strF
      rw [if_neg c]
    rw [eF] at h
    generalize partM ns a low high = m at *
    have L := strF_ok ns prs n rs (partA ns a) low m (by omega) (by omega) (by omega) ok nl' hlt
    generalize strF ns prs n rs (partA ns a) low m = l at *
    have tn2 := tn_of hM1 hsp1
    have hp2 := f2 _ _ hp1 (by simp only [List.mem_cons, List.not_mem_nil, or_false, not_or]; exact ⟨plr, plspl⟩)
    have hA2 : A2 (PairR H2) ps prs := hA1.mono fun _ _ e => e.fr f2 tn2
    have hsz1 : l.rs.length ≤ 600000 + 3 * m * m := by
      have := L.size
      obtain ⟨x, rfl⟩ := Nat.exists_eq_add_of_lt hm.1
      have e : low + x + 1 - low = x + 1 := by omega
      rw [e] at this
      have e2 : 3 * (low + x + 1) * (low + x + 1) = 3 * low * low + 3 * (x + 1) * (x + 1) + 6 * low * (x + 1) := by grind
      rw [e2]
      omega
    walk_at "ws"
    refine ⟨sh, r, pl, spl, nl, l.a, m, high, ns, prs, ps, l.rs, N, rfl, by omega, hhp, hpl, by omega, sh2, M2, hp2, hA2, sp2, plr, nlr, L.ok, L.nl, (fun p q => (hlt p q).ext L.ext), hsz1, fun qu qsu H3 n3 e3 a3 sp3 sh3 M3 f3 => ?_⟩
    have U := strF_ok ns prs n l.rs l.a m high (by omega) hhp (by omega) L.ok L.nl (fun p q => (hlt p q).ext L.ext)
    generalize strF ns prs n l.rs l.a m high = u at *
    have tn3 := tn_of M2 sp2
    have qln : ql ∉ [r, spl] := fun z => by
      rcases List.mem_cons.mp z with z | z
      · exact (hM1.fresh n2) z
      · obtain ⟨⟨C, d, e, _⟩, _⟩ := hsp1
        rw [← List.mem_singleton.mp z, n2] at e
        cases e
    have e23 := f3 _ _ e2 qln
    have a23 : A2 (PairR H3) qsl l.out := a2.mono fun _ _ e => e.fr f3 tn3
    have hU : u.rs.length ≤ 700000 := by
      have := U.size
      have h1 : high ≤ 70 := by omega
      have h2 : 3 * m * m ≤ 3 * 70 * 70 := Nat.mul_le_mul (Nat.mul_le_mul_left 3 (by omega)) (by omega)
      have h3 : 3 * (high - m) * (high - m) ≤ 3 * 70 * 70 := Nat.mul_le_mul (Nat.mul_le_mul_left 3 (by omega)) (by omega)
      omega
    have hull := U.len
    have hlll := L.len
    have hum : (qsu.map V.ref).length = u.out.length := by rw [List.length_map, a3.1]
    have hlm' : (qsl.map V.ref).length = l.out.length := by rw [List.length_map, a2.1]
    have qlr : ql ≠ r := fun z => qln (by rw [z]; exact List.mem_cons_self ..)
    have qur : qu ≠ r := M2.fresh n3
    have spr : spl ≠ r := rspl.symm
    obtain ⟨lq, hlq, hlastA⟩ : ∃ lq, qsl[l.out.length - 1]? = some lq ∧ PairR H3 lq (lastP l.out) := by
      have hi : l.out.length - 1 < qsl.length := by rw [a2.1]; omega
      refine ⟨_, List.getElem?_eq_getElem hi, a23.2 _ _ _ (List.getElem?_eq_getElem hi) ?_⟩
      rw [lastP_get rfl, List.getD_eq_getElem?_getD, List.getElem?_eq_getElem (by omega)]
      rfl
    walk_at "ws"
    refine lc_inv (qsu.map V.ref) (fun D i ys G => ∃ ts : List Addr, ys = ts.map V.ref ∧ G D = some (.lst ys) ∧ Fr [r] H3 G ∧ SheetAt K G sh r ∧ RowsM G r (joinRs u.rs (lastP l.out) (u.out.take i)) ∧ A2 (PairR G) ts (joinOut u.rs.length i) ∧ i ≤ u.out.length ∧ D ≠ r) (by omega) (fun D hD => ?_) (fun D i ys G hP => ?_) (fun x => rfl) (fun D i x ys G Q' hD hx hP k => ?_) (fun D ys G hD hP => ?_)
    · have Dr : D ≠ r := M3.fresh hD
      have sD := same_upd (o := .lst []) hD
      exact ⟨[], rfl, upd_same, Fr.of sD, sh3.same sD, M3.same sD, A2.nil, Nat.zero_le _, Dr⟩
    · obtain ⟨ts, rfl, eD, fG, _, _, hT, _, _⟩ := hP
      exact ⟨SqL.of (fG _ _ e3 (by simpa using qur)), by rw [List.length_map, hT.1, joinOut_len]; exact Nat.le_refl _⟩
    · obtain ⟨ts, rfl, eD, fG, shG, MG, hT, hi, Dr⟩ := hP
      obtain ⟨q, hq, rfl⟩ := get_map hx
      obtain ⟨uo, huo, hqa⟩ := a3.get hq
      have hil := (List.getElem?_eq_some_iff.mp huo).1
      have tnG : ∀ b xs, H3 b = some (.tup xs) → b ∉ [r] := fun b xs e m => by
        obtain ⟨_, e2, _⟩ := M3
        rw [List.mem_singleton.mp m, e2] at e; cases e
      have hqG : PairAt G q uo.1 uo.2 := fG _ _ hqa (tnG _ _ hqa)
      have hlG : PairAt G lq (lastP l.out).1 (lastP l.out).2 := fG _ _ hlastA (tnG _ _ hlastA)
      have elG := fG _ _ e23 (by simpa using qlr)
      have hJl := joinRs_len u.rs (lastP l.out) (u.out.take i)
      rw [List.length_take, Nat.min_eq_left hi] at hJl
      walk_at "ws"
      refine w_ixL (SqL.of elG) (atI_lastR (by rw [a2.1]; exact hlq)) ?_
      walk_at "ws"
      refine ⟨sh, r, q, lq, _, uo.1, uo.2, (lastP l.out).1, (lastP l.out).2, rfl, shG, MG, hqG, hlG, by omega, fun t G2 nt f2' sh2' M2' pt => k _ _ ?_ ?_⟩
      · exact f2' _ _ eD (by simpa using Dr)
      · have tD : t ≠ D := fun z => by rw [z, eD] at nt; cases nt
        have eD2 := f2' _ _ eD (by simpa using Dr)
        have ftr : Fr [D] G2 (upd G2 D (.lst (ts.map V.ref ++ [.ref t]))) := Fr.put (List.mem_cons_self ..)
        have tnD : ∀ b xs, G2 b = some (.tup xs) → b ∉ [D] := fun b xs e m => by
          rw [List.mem_singleton.mp m, eD2] at e; cases e
        have tnG2 : ∀ b xs, G b = some (.tup xs) → b ∉ [r] := fun b xs e m => by
          obtain ⟨_, e2, _⟩ := MG
          rw [List.mem_singleton.mp m, e2] at e; cases e
        have shD : sh ≠ D := fun z => by
          obtain ⟨_, _, e, _⟩ := sh2'
          rw [z, eD2] at e
          cases e
        refine ⟨ts ++ [t], by rw [List.map_append]; rfl, upd_same, ?_, sh2'.fr ftr (by simpa using shD), ?_, ?_, hil, Dr⟩
        · intro b o e nb
          have hbD : b ≠ D := ne_of_none e hD
          rw [upd_ne hbD]
          exact f2' _ _ (fG _ _ e nb) nb
        · have := M2'.fr ftr (by simpa using Dr.symm) (fun p x m e => tnD _ _ e m)
          rw [take_snoc huo, joinRs_snoc]
          exact this
        · rw [joinOut_succ]
          refine A2.snoc (hT.mono fun _ _ e => (e.fr f2' tnG2).fr ftr tnD) ?_
          have pt2 : G2 t = some (.tup [.int ((u.rs.length + 3 * i + 1 : Nat) : Int), .int ((u.rs.length + 3 * i + 2 : Nat) : Int)]) := by
            rw [hJl] at pt
            exact pt
          exact hp_upd tD pt2
    · obtain ⟨ts, rfl, eD, fG, shG, MG, hT, hi, Dr⟩ := hP
      rw [hum] at MG hT
      rw [List.take_of_length_le (Nat.le_refl _)] at MG
      have elG := fG _ _ e23 (by simpa using qlr)
      have hTl := hT.1
      rw [joinOut_len] at hTl
      have tnG : ∀ b xs, H3 b = some (.tup xs) → b ∉ [r] := fun b xs e m => by
        obtain ⟨_, e2, _⟩ := M3
        rw [List.mem_singleton.mp m, e2] at e; cases e
      have aG : A2 (PairR G) qsl l.out := a23.mono fun _ _ e => e.fr fG tnG
      have hqsl := a2.1
      refine w_cat elG eD (by rw [List.length_map, List.length_map]; omega) fun p9 H9 n9 s9 e9 => ?_
      walk_at "ws"
      have f09 : Fr [r, spl] H H9 := ((((f1.mono fun m hm => by rw [List.mem_singleton.mp hm]; exact List.mem_cons_of_mem _ (List.mem_cons_self ..)).trans f2).trans f3).trans (fG.mono fun m hm => by rw [List.mem_singleton.mp hm]; exact List.mem_cons_self ..)).trans (Fr.of s9)
      have spG := sp3.fr fG (by simpa using spr) (by simpa using nlr)
      refine h p9 (qsl ++ ts) H9 ?_ (by rw [List.map_append]; exact e9) ((aG.mono fun _ _ e => e.same s9).append (hT.mono fun _ _ e => e.same s9)) (spG.same s9) (shG.same s9) (MG.same s9) f09
      have f0G : Fr [r, spl] H G := (((f1.mono fun m hm => by rw [List.mem_singleton.mp hm]; exact List.mem_cons_of_mem _ (List.mem_cons_self ..)).trans f2).trans f3).trans (fG.mono fun m hm => by rw [List.mem_singleton.mp hm]; exact List.mem_cons_self ..)
      cases e : H p9 with
      | none => rfl
      | some o =>
        by_cases z : p9 ∈ [r, spl]
        · rcases List.mem_cons.mp z with z | z
          · exact absurd z (MG.fresh n9)
          · obtain ⟨⟨C, d, e, _⟩, _⟩ := spG
            rw [← List.mem_singleton.mp z, n9] at e
            cases e
        · rw [f0G _ _ e z] at n9
          cases n9
theorem all_stretch (T : Top K mg) : ∀ n : Nat, FnOk P w K mg base CX0 (3 + n) T.a_stretch T.d_stretch ["sheet", "pairs", "low", "high", "splits"] (sp_stretch K n)
  | 0 => T.f_stretch.ok (k := 2) sc_stretch (fun _ _ _ _ h => (no_stretch h).elim) (fun _ _ _ _ _ _ _ _ _ h => (no_stretch h).elim)
  | n + 1 => rec_stretch T n (all_stretch T n)
theorem ok_stretch (T : Top K mg) : FnOk P w K mg base CX0 69 T.a_stretch T.d_stretch ["sheet", "pairs", "low", "high", "splits"] (sp_stretch K 66) := all_stretch T 66
/-- where the pairs of a list stand -/
def PairsAt (H : Hp) (p : Addr) (prs : List (Nat × Nat)) : Prop := ∃ qs : List Addr, H p = some (.lst (qs.map V.ref)) ∧ A2 (PairR H) qs prs
theorem PairsAt.same {H H' : Hp} {p : Addr} {prs : List (Nat × Nat)} (h : PairsAt H p prs) (s : Same H H') : PairsAt H' p prs := by
  obtain ⟨qs, h1, h2⟩ := h
  exact ⟨qs, s _ _ h1, h2.mono fun _ _ e => e.same s⟩
def preF (ns : List Int) (prs : List (Nat × Nat)) (rs : List Row) : StrR := strF ns prs 66 rs 0 0 prs.length
theorem preF_ok {N : Str → Prop} (ns : List Int) {prs : List (Nat × Nat)} {rs : List Row} (hl : prs.length ≤ 64) (ok : RowsOk N rs) (nl : NoLats rs) (hlt : ∀ p ∈ prs, LtP rs p) : StrOk N prs rs 0 prs.length (preF ns prs rs) := strF_ok ns prs 66 rs 0 0 prs.length (Nat.zero_le _) (Nat.le_refl _) (by omega) ok nl hlt
def sp_prefixes (K : PySem.W.Frag) : Sp := fun vs H Q _ => ∃ (sh r pl al : Addr) (ns : List Int) (prs : List (Nat × Nat)) (ps : List Addr) (rs : List Row) (N : Str → Prop), vs = [.ref sh, .ref pl, .ref al] ∧ prs.length ≤ 64 ∧ SheetAt K H sh r ∧ RowsM H r rs ∧ H pl = some (.lst (ps.map V.ref)) ∧ A2 (PairR H) ps prs ∧ H al = some (.lst (ns.map V.int)) ∧ RowsOk N rs ∧ NoLats rs ∧ (∀ p ∈ prs, LtP rs p) ∧ rs.length ≤ 600000 ∧
  ∀ p H', H p = none → PairsAt H' p (preF ns prs rs).out → SheetAt K H' sh r → RowsM H' r (preF ns prs rs).rs → Fr [r] H H' → Q (.ref p) H'
theorem ok_prefixes (T : Top K mg) : FnOk P w K mg base CX0 70 T.a_prefixes T.d_prefixes ["sheet", "pairs", "splits"] (sp_prefixes K) := by
  refine T.f_prefixes.ok sc_prefixes (fun vs H Q E h => ?_) (fun cdv A outer s H vs Q E hr h => ?_)
  · obtain ⟨sh, r, pl, al, ns, prs, ps, rs, N, rfl, _⟩ := h
    rfl
  obtain ⟨sh, r, pl, al, ns, prs, ps, rs, N, rfl, h⟩ := h
  refine ⟨_, (pss_one (ps_ret (pe_call (ok_stretch T) (hr.mono (by decide)) (by rfl) T.g_stretch T.f_stretch.kp T.b_stretch .nil pass0 (pa_cons (pv 0) (pa_cons (pe_callTy (c_listK K) (by rfl) T.z_list (by decide +kernel) (pa_cons (pv 1) pa_nil)) (pa_cons pe_int (pa_cons (pe_callB (c_lenK K) (by rfl) T.z_len PySem.boot_len (pa_cons (pv 1) pa_nil)) (pa_cons (pe_make T.mk_Splits (ok_Splits__init T) (hr.mono (by decide)) (by rfl) T.gc_Splits T.b_Splits__init .nil pass0 (pa_cons (pv 2) pa_nil)) pa_nil)))))))), ?_⟩
  try dsimp only [cxOf, Cx.nox, Cx.wish]
  simp only [L2.start, List.map_cons, List.map_nil, List.length_cons, List.length_nil, Nat.reduceAdd, Nat.reduceSub, List.replicate_succ, List.replicate_zero, List.cons_append, List.nil_append]
  obtain ⟨hpl, hsh, hM, hp, hA, hn, ok, nl, hlt, hrl, h⟩ := h
  have hpm : (ps.map V.ref).length = prs.length := by rw [List.length_map, hA.1]
  walk_at "ws"
  rename_i p1 H1 n1 s1 e1 s dx H2 n2 nd2 s2 e2
  have s12 := s1.trans s2
  refine ⟨s, T.c_Splits, dx, al, ns, rfl, e2, T.nc_Splits, s12 _ _ hn, fun nl1 H3 n3 hsp f3 => ⟨rfl, ?_⟩⟩
  have sr : s ≠ r := (hM.same s1).fresh n2
  have p1s : p1 ≠ s := fun z => by rw [z, n2] at e1; cases e1
  have tn : ∀ b xs, H2 b = some (.tup xs) → b ∉ [s] := fun b xs e m => by
    rw [List.mem_singleton.mp m, e2] at e; cases e
  have shs : sh ≠ s := fun z => by
    obtain ⟨_, _, e, _⟩ := hsh.same s1
    rw [z, n2] at e
    cases e
  have nl1r : nl1 ≠ r := (hM.same s12).fresh n3
  have p1r : p1 ≠ r := hM.fresh n1
  have f13 : Same H1 H3 := f3.same s2 (fun m hm => by rw [List.mem_singleton.mp hm]; exact n2)
  have s13 := s1.trans f13
  refine ⟨sh, r, p1, s, nl1, 0, 0, prs.length, ns, prs, ps, rs, N, by rw [hpm]; rfl, Nat.zero_le _, Nat.le_refl _, by omega, by omega, hsh.same s13, hM.same s13, f13 _ _ e1, hA.mono fun _ _ e => e.same s13, hsp, p1r, nl1r, ok, nl, hlt, by omega, fun p qs H4 n4 e4 a4 sp4 sh4 M4 f4 => ?_⟩
  walk_at "ws"
  refine h p H4 (s13.free n4) ⟨qs, e4, a4⟩ sh4 M4 fun b o e nb => f4 b o (s13 _ _ e) fun m => ?_
  rcases List.mem_cons.mp m with z | z
  · exact nb (by rw [z]; exact List.mem_cons_self ..)
  · rw [List.mem_singleton.mp z, s1.free n2] at e
    cases e

theorem dpAll_of {α : Type} {K : PySem.W.Frag} {H : Hp} {R : Addr → α → Prop} {f : α → PyData} (hR : ∀ p x, R p x → Dp K H (.ref p) (f x)) : ∀ {ps : List Addr} {xs : List α}, A2 R ps xs → DpAll K H (ps.map V.ref) (xs.map f)
  | [], [], _ => .nil
  | [], _ :: _, h => by have := h.1; simp at this
  | _ :: _, [], h => by have := h.1; simp at this
  | p :: ps, r :: rs, h => .cons (hR _ _ h.tail.1) (dpAll_of hR h.tail.2)
theorem layAll_of {α : Type} {f : α → PyData} (h : ∀ x, PyData.canLay0 (f x) = true) : ∀ xs : List α, PyData.canLayAll0 (xs.map f) = true
  | [] => rfl
  | x :: r => by
    show (PyData.canLay0 (f x) && PyData.canLayAll0 (r.map f)) = true
    rw [layAll_of h r, h x]
    rfl
theorem depthAll_of {α : Type} {f : α → PyData} {n : Nat} (h : ∀ x, PyData.depth (f x) ≤ n) : ∀ xs : List α, PyData.depthAll (xs.map f) ≤ n
  | [] => Nat.zero_le _
  | x :: r => Nat.max_le.mpr ⟨h x, depthAll_of h r⟩
/-! slices of mapped lists -/
def cutA {α : Type} (xs : List α) (lo hi : Option Int) : List α := (xs.drop (HT.sIx xs.length 0 lo)).take (HT.sIx xs.length xs.length hi - HT.sIx xs.length 0 lo)
theorem cut_map {α : Type} (f : α → V) (xs : List α) (lo hi : Option Int) : cutV (xs.map f) lo hi = (cutA xs lo hi).map f := by
  unfold cutV cutA
  rw [List.length_map, List.map_take, List.map_drop]
theorem cutA_mem {α : Type} {xs : List α} {lo hi : Option Int} {x : α} (h : x ∈ cutA xs lo hi) : x ∈ xs := List.mem_of_mem_drop (List.mem_of_mem_take h)
theorem cutA_len {α : Type} (xs : List α) (lo hi : Option Int) : (cutA xs lo hi).length ≤ xs.length := by
  unfold cutA
  rw [List.length_take, List.length_drop]
  omega
theorem cutA_upto {α : Type} (xs : List α) (n : Nat) : cutA xs none (some (n : Int)) = xs.take n := by
  unfold cutA
  rw [HT.sIx_none, HT.sIx_nat, List.drop_zero, Nat.sub_zero]
  rcases Nat.le_total n xs.length with h | h
  · rw [Nat.min_eq_left h]
  · rw [Nat.min_eq_right h, List.take_of_length_le (Nat.le_refl _), List.take_of_length_le h]

theorem c_sumK {X : Cx} (K : PySem.W.Frag) (e : X.K = K := by rfl) (hc : X.calm = true := by rfl) : CallR X (.builtin "sum") (rSum K) := by subst e; exact cr_sum hc
theorem w_sumL {K : PySem.W.Frag} {H : Hp} {Q : VK} {a : Addr} {ns : List Int} (h : SqL K H a (ns.map V.int)) (q : Q (.int ns.sum) H) : rSum K [.ref a] H Q := ⟨a, ns, rfl, h, q⟩

theorem sum_bits {n : Nat} : ∀ {ns : List Int}, (∀ z ∈ ns, Builtin.Int.intBits z ≤ n) → ns.sum.natAbs ≤ ns.length * 2 ^ n
  | [], _ => by simp
  | z :: r, h => by
    have ih := sum_bits (n := n) (ns := r) fun y m => h y (List.mem_cons_of_mem _ m)
    have h0 := (ib_abs z n).mp (h z (List.mem_cons_self ..))
    rw [List.sum_cons, List.length_cons, Nat.add_mul, Nat.one_mul]
    have := Int.natAbs_add_le z r.sum
    omega
theorem sum_bits_le {ns : List Int} {k : Int} (h : ∀ z ∈ ns, Builtin.Int.intBits z ≤ 1048576) (hl : ns.length ≤ 63) (hk : 0 ≤ k ∧ k ≤ 1000) : Builtin.Int.intBits (ns.sum + k) ≤ 1048600 := by
  have a : Builtin.Int.intBits ns.sum ≤ 1048576 + 6 := by
    rw [ib_abs]
    have := sum_bits h
    have e : 2 ^ (1048576 + 6) = 64 * 2 ^ 1048576 := by rw [Nat.pow_add, Nat.mul_comm]
    rw [e]
    generalize hp : 2 ^ 1048576 = p at *
    have pp : 0 < p := by rw [← hp]; exact Nat.pow_pos (by decide)
    refine Nat.lt_of_le_of_lt this ?_
    exact Nat.mul_lt_mul_of_pos_right (by omega) pp
  exact Nat.le_trans (bits_add (n := 1048582) a (Nat.le_trans (intBits_le_64 (by omega) (by omega)) (by decide))) (by decide)
theorem RowsOk.imp {M N : Str → Prop} {rs : List Row} (h : RowsOk M rs) (k : ∀ n, M n → N n) : RowsOk N rs := fun i r e => by
  have := h i r e
  cases r with
  | inn n j => exact ⟨k n this.1, this.2⟩
  | _ => exact this

/-! two rows of dots summed, the mathematics -/
def pairOf (z : Nat) (rs : List Row) (dots : List Nat) : List Row × (Nat × Nat) := match dots with
  | [x, y] => (rs ++ [.bin .and x y, .bin .xor x y], (rs.length, rs.length + 1))
  | [x] => (rs, (z, x))
  | _ => (rs, (z, z))
def pairsF (z : Nat) (rs : List Row) (cols : List (List Nat)) : List Row × List (Nat × Nat) := cols.foldl (fun s d => ((pairOf z s.1 d).1, s.2 ++ [(pairOf z s.1 d).2])) (rs, [])
theorem pairsF_snoc (z : Nat) (rs : List Row) (cols : List (List Nat)) (d : List Nat) : pairsF z rs (cols ++ [d]) = ((pairOf z (pairsF z rs cols).1 d).1, (pairsF z rs cols).2 ++ [(pairOf z (pairsF z rs cols).1 d).2]) := by
  unfold pairsF
  rw [List.foldl_append]
  rfl
/-- a pair tells how many dots are 1 -/
def PairOk (f : Nat → Int) (p : Nat × Nat) (xs : List Nat) : Prop := colS f xs = 2 * f p.1 + f p.2 ∧ f p.1 * f p.2 = 0
structure PairsOk (N : Str → Prop) (rs : List Row) (cols : List (List Nat)) (s : List Row × List (Nat × Nat)) : Prop where
  ext : Ext rs s.1
  ok : RowsOk N s.1
  nl : NoLats s.1
  len : s.2.length = cols.length
  lt : ∀ p ∈ s.2, LtP s.1 p
  size : s.1.length ≤ rs.length + 2 * cols.length
  bits : ∀ (ws : List (Str × Int)) (k : Nat), k < cols.length → PairOk (bit ws s.1) (s.2.getD k (0, 0)) (cols.getD k [])
theorem pairsF_ok {N : Str → Prop} {rs : List Row} (ok : RowsOk N rs) (nl : NoLats rs) {z : Nat} (hz : rs[z]? = some (.fix 0)) : ∀ cols : List (List Nat), (∀ xs ∈ cols, xs.length ≤ 2) → DotsOk rs cols → PairsOk N rs cols (pairsF z rs cols) := by
  have hzl := (List.getElem?_eq_some_iff.mp hz).1
  apply list_snoc_ind (P := fun cols => (∀ xs ∈ cols, xs.length ≤ 2) → DotsOk rs cols → PairsOk N rs cols (pairsF z rs cols))
  · intro _ _
    exact ⟨Ext.refl _, ok, nl, rfl, fun p m => (by cases m), Nat.le_refl _, fun ws k h => absurd h (Nat.not_lt_zero _)⟩
  · intro cols d ih h2 hd
    have I := ih (fun xs m => h2 xs (List.mem_append_left _ m)) (fun xs m => hd xs (List.mem_append_left _ m))
    have d2 := h2 d (List.mem_append_right _ (List.mem_cons_self ..))
    have dd := hd d (List.mem_append_right _ (List.mem_cons_self ..))
    rw [pairsF_snoc]
    generalize pairsF z rs cols = s at *
    obtain ⟨R, ps⟩ := s
    dsimp only
    have hRl : rs.length ≤ R.length := I.ext.len
    have oR : RowsOk N R := I.ok
    have nR : NoLats R := I.nl
    have hzR : R[z]? = some (.fix 0) := I.ext.get hz
    have old : ∀ {R2 : List Row}, Ext R R2 → RowsOk N R2 → ∀ (ws : List (Str × Int)) (k : Nat), k < cols.length → PairOk (bit ws R2) (ps.getD k (0, 0)) (cols.getD k []) := fun {R2} e _ ws k hk => by
      have b := I.bits ws k hk
      have hk' : k < ps.length := by rw [show ps.length = cols.length from I.len]; exact hk
      have mp : ps.getD k (0, 0) ∈ ps := by rw [List.getD_eq_getElem?_getD, List.getElem?_eq_getElem hk']; exact List.getElem_mem _
      have lp : LtP R (ps.getD k (0, 0)) := I.lt _ mp
      have mc : cols.getD k [] ∈ cols := by rw [List.getD_eq_getElem?_getD, List.getElem?_eq_getElem hk]; exact List.getElem_mem _
      have ec : colS (bit ws R2) (cols.getD k []) = colS (bit ws R) (cols.getD k []) := by
        unfold colS
        congr 1
        exact List.map_congr_left fun w hw => e.bit ws (Nat.lt_of_lt_of_le (hd _ (List.mem_append_left _ mc) w hw) hRl)
      unfold PairOk at *
      rw [ec, e.bit ws lp.1, e.bit ws lp.2]
      exact b
    have fin : ∀ (R2 : List Row) (p : Nat × Nat), Ext R R2 → RowsOk N R2 → NoLats R2 → R2.length ≤ R.length + 2 → LtP R2 p → (∀ ws, PairOk (bit ws R2) p d) → PairsOk N rs (cols ++ [d]) (R2, ps ++ [p]) := fun R2 p e o n sz lp bp => by
      have hl : ps.length = cols.length := I.len
      refine ⟨I.ext.trans e, o, n, ?_, fun q m => ?_, ?_, fun ws k hk => ?_⟩
      · show (ps ++ [p]).length = _
        rw [List.length_append, List.length_append, hl]; rfl
      · rcases List.mem_append.mp m with w | w
        · exact (I.lt q w).ext e
        · rw [List.mem_singleton.mp w]; exact lp
      · have := I.size
        show R2.length ≤ _
        have this : R.length ≤ rs.length + 2 * cols.length := this
        rw [List.length_append, List.length_singleton]; omega
      · show PairOk (bit ws R2) ((ps ++ [p]).getD k (0, 0)) ((cols ++ [d]).getD k [])
        by_cases c : k < cols.length
        · have e1 : (ps ++ [p]).getD k (0, 0) = ps.getD k (0, 0) := by
            rw [List.getD_eq_getElem?_getD, List.getElem?_append_left (by omega), ← List.getD_eq_getElem?_getD]
          have e2 : (cols ++ [d]).getD k [] = cols.getD k [] := by
            rw [List.getD_eq_getElem?_getD, List.getElem?_append_left c, ← List.getD_eq_getElem?_getD]
          rw [e1, e2]
          exact old e o ws k c
        · rw [List.length_append, List.length_singleton] at hk
          have ek : k = cols.length := by omega
          subst ek
          have e1 : (ps ++ [p]).getD cols.length (0, 0) = p := by
            rw [List.getD_eq_getElem?_getD, ← hl, List.getElem?_append_right (Nat.le_refl _), Nat.sub_self]; rfl
          have e2 : (cols ++ [d]).getD cols.length [] = d := by
            rw [List.getD_eq_getElem?_getD, List.getElem?_append_right (Nat.le_refl _), Nat.sub_self]; rfl
          rw [e1, e2]
          exact bp ws
    have hzb : ∀ ws, bit ws R z = 0 := fun ws => bit_fix hzR
    match d, d2, dd with
    | [], _, _ =>
      refine fin R (z, z) (Ext.refl _) I.ok I.nl (by omega) ⟨by omega, by omega⟩ fun ws => ?_
      unfold PairOk colS
      rw [hzb ws]
      exact ⟨rfl, rfl⟩
    | [x], _, dd =>
      have hx := dd x (List.mem_cons_self ..)
      refine fin R (z, x) (Ext.refl _) I.ok I.nl (by omega) ⟨by omega, by omega⟩ fun ws => ?_
      unfold PairOk colS
      rw [hzb ws]
      simp
    | [x, y], _, dd =>
      have hx := dd x (List.mem_cons_self ..)
      have hy := dd y (List.mem_cons_of_mem _ (List.mem_cons_self ..))
      have e1 : R ++ [Row.bin .and x y, Row.bin .xor x y] = (R ++ [.bin .and x y]) ++ [.bin .xor x y] := by simp
      have o1 : RowsOk N (R ++ [Row.bin .and x y, Row.bin .xor x y]) := by
        rw [e1]
        exact (oR.snoc (r := .bin .and x y) ⟨by omega, by omega⟩).snoc (r := .bin .xor x y) ⟨by rw [List.length_append]; omega, by rw [List.length_append]; omega⟩
      have n1 : NoLats (R ++ [Row.bin .and x y, Row.bin .xor x y]) := by
        rw [e1]
        exact (NoLats.snoc nR (r := .bin .and x y) True.intro).snoc (r := .bin .xor x y) True.intro
      have hl : (R ++ [Row.bin .and x y, Row.bin .xor x y]).length = R.length + 2 := by rw [List.length_append]; rfl
      show PairsOk N rs (cols ++ [[x, y]]) (R ++ [Row.bin .and x y, Row.bin .xor x y], ps ++ [(R.length, R.length + 1)])
      refine fin (R ++ [Row.bin .and x y, Row.bin .xor x y]) (R.length, R.length + 1) (Ext.app _ _) o1 n1 (by rw [hl]; exact Nat.le_refl _) ⟨by rw [hl]; exact Nat.lt_succ_of_lt (Nat.lt_succ_self _), by rw [hl]; exact Nat.lt_succ_self _⟩ fun ws => ?_
      have g0 : (R ++ [Row.bin .and x y, Row.bin .xor x y])[R.length]? = some (.bin .and x y) := by rw [List.getElem?_append_right (Nat.le_refl _), Nat.sub_self]; rfl
      have g1 : (R ++ [Row.bin .and x y, Row.bin .xor x y])[R.length + 1]? = some (.bin .xor x y) := by rw [List.getElem?_append_right (by omega), show R.length + 1 - R.length = 1 by omega]; rfl
      unfold PairOk colS
      dsimp only
      rw [bit_bin o1 g0, bit_bin o1 g1]
      rcases bit_01 o1 ws x with a | a <;> rcases bit_01 o1 ws y with b | b <;> simp only [List.map_cons, List.map_nil, List.sum_cons, List.sum_nil, a, b] <;> exact ⟨rfl, rfl⟩
/-- no in row is new -/
def NewIns (a b : List Row) : Prop := ∀ m k, Row.inn m k ∈ b → Row.inn m k ∈ a
theorem NewIns.refl (a : List Row) : NewIns a a := fun _ _ h => h
theorem NewIns.trans {a b c : List Row} (h : NewIns a b) (k : NewIns b c) : NewIns a c := fun m j z => h m j (k m j z)
theorem NewIns.app (a : List Row) {t : List Row} (h : ∀ m k, Row.inn m k ∉ t) : NewIns a (a ++ t) := fun m k z => by
  rcases List.mem_append.mp z with z | z
  · exact z
  · exact absurd z (h m k)
theorem pairsF_ins (z : Nat) (rs : List Row) : ∀ cols : List (List Nat), NewIns rs (pairsF z rs cols).1 := by
  apply list_snoc_ind (P := fun cols => NewIns rs (pairsF z rs cols).1)
  · exact NewIns.refl _
  · intro cols d ih
    rw [pairsF_snoc]
    refine ih.trans ?_
    generalize (pairsF z rs cols).1 = R
    unfold pairOf
    split
    · exact NewIns.app _ fun m k z => by simp only [List.mem_cons, List.not_mem_nil, or_false, reduceCtorEq] at z
    · exact NewIns.refl _
    · exact NewIns.refl _
theorem joinRs_ins (p : Nat × Nat) (out : List (Nat × Nat)) (rs : List Row) : NewIns rs (joinRs rs p out) := by
  unfold joinRs
  induction out generalizing rs with
  | nil => exact NewIns.refl _
  | cons x r ih =>
    rw [List.foldl_cons]
    exact NewIns.trans (NewIns.app _ fun m k z => by simp only [joinR, List.mem_cons, List.not_mem_nil, or_false, reduceCtorEq] at z) (ih _)
theorem strF_ins (ns : List Int) (prs : List (Nat × Nat)) : ∀ (f : Nat) (rs : List Row) (a low high : Nat), NewIns rs (strF ns prs f rs a low high).rs
  | 0, rs, a, low, high => NewIns.refl _
  | f + 1, rs, a, low, high => by
    unfold strF
    split
    · exact NewIns.refl _
    · exact ((strF_ins ns prs f _ _ _ _).trans (strF_ins ns prs f _ _ _ _)).trans (joinRs_ins _ _ _)
/-- what comes out: the pairs' passes, and the carries told -/
def OutOk (N : Str → Prop) (rs : List Row) (cols : List (List Nat)) (R : List Row) (outs : List Nat) : Prop := Ext rs R ∧ RowsOk N R ∧ NoLats R ∧ outs.length = cols.length ∧ (∀ w ∈ outs, w < R.length) ∧ (R.length ≤ rs.length + (3 * cols.length * cols.length + 3 * cols.length + 1) ∧ NewIns rs R) ∧ ∀ ws, outs.map (bit ws R) = bitsI (worthN (bit ws rs) cols cols.length) cols.length
def outRow (prs out : List (Nat × Nat)) (k : Nat) : Row := .bin .xor (prs.getD (k + 1) (0, 0)).2 (out.getD k (0, 0)).1
/-- rows and wires behind k turns -/
def outF (R : List Row) (prs out : List (Nat × Nat)) : Nat → List Row × List Nat
  | 0 => (R, [])
  | 1 => (R, [(prs.getD 0 (0, 0)).2])
  | k + 2 => ((outF R prs out (k + 1)).1 ++ [outRow prs out k], (outF R prs out (k + 1)).2 ++ [(outF R prs out (k + 1)).1.length])
theorem outF_ins (R : List Row) (prs out : List (Nat × Nat)) : ∀ k, NewIns R (outF R prs out k).1
  | 0 => NewIns.refl _
  | 1 => NewIns.refl _
  | k + 2 => (outF_ins R prs out (k + 1)).trans (NewIns.app _ fun m k z => by simp only [outRow, List.mem_cons, List.not_mem_nil, or_false, reduceCtorEq] at z)
theorem xor_bits {g p c : Int} (hg : is01 g) (hp : is01 p) (hc : is01 c) (z : g * p = 0) : bopI .xor p c + 2 * bopI .or g (p * c) = 2 * g + p + c := by
  unfold bopI
  rcases hg with a | a <;> rcases hp with b | b <;> rcases hc with d | d <;> subst a b d <;> first | rfl | exact absurd z (by decide)
theorem outF_ok {N : Str → Prop} {rs R : List Row} {prs out : List (Nat × Nat)} {cols : List (List Nat)} (eR : Ext rs R) (okR : RowsOk N R) (nlR : NoLats R) (hpl : prs.length = cols.length) (hol : out.length = cols.length) (hlt : ∀ p ∈ prs, LtP R p) (hlo : ∀ p ∈ out, LtP R p)
    (pb : ∀ (ws : List (Str × Int)) (k : Nat), k < cols.length → PairOk (bit ws R) (prs.getD k (0, 0)) (cols.getD k [])) (wb : ∀ (ws : List (Str × Int)) (k : Nat), k < cols.length → bitP ws R (out.getD k (0, 0)) = combL ((prs.take (k + 1)).map (bitP ws R))) :
    ∀ k, k ≤ cols.length → Ext R (outF R prs out k).1 ∧ RowsOk N (outF R prs out k).1 ∧ NoLats (outF R prs out k).1 ∧ (outF R prs out k).1.length ≤ R.length + k ∧ (outF R prs out k).2.length = k ∧ (∀ w ∈ (outF R prs out k).2, w < (outF R prs out k).1.length) ∧
      ∀ ws, valI ((outF R prs out k).2.map (bit ws (outF R prs out k).1)) + (combL ((prs.take k).map (bitP ws R))).1 * 2 ^ k = worthN (bit ws R) cols k := by
  have mem1 : ∀ k, k < cols.length → prs.getD k (0, 0) ∈ prs := fun k hk => by rw [List.getD_eq_getElem?_getD, List.getElem?_eq_getElem (by omega)]; exact List.getElem_mem _
  have mem2 : ∀ k, k < cols.length → out.getD k (0, 0) ∈ out := fun k hk => by rw [List.getD_eq_getElem?_getD, List.getElem?_eq_getElem (by omega)]; exact List.getElem_mem _
  have c01 : ∀ ws k, is2 (combL ((prs.take k).map (bitP ws R))) := fun ws k => foldC_01 ⟨.inl rfl, .inr rfl⟩ fun g q => by
    obtain ⟨p, _, rfl⟩ := List.mem_map.mp q
    exact bitP_01 okR ws p
  have cstep : ∀ ws k, k < cols.length → combL ((prs.take (k + 1)).map (bitP ws R)) = stepC (combL ((prs.take k).map (bitP ws R))) (bitP ws R (prs.getD k (0, 0))) := fun ws k hk => by
    rw [take_snoc (List.getElem?_eq_getElem (by omega : k < prs.length)), List.map_append]
    unfold combL
    rw [List.foldl_append, List.getD_eq_getElem?_getD, List.getElem?_eq_getElem (by omega : k < prs.length)]
    rfl
  have wstep : ∀ ws k, worthN (bit ws R) cols (k + 1) = worthN (bit ws R) cols k + colS (bit ws R) (cols.getD k []) * 2 ^ k := fun ws k => by
    show worthN (bit ws R) cols k + lin (bit ws R) k (cols.getD k []) = _
    rw [lin_colS]
  intro k
  induction k with
  | zero =>
    intro _
    refine ⟨Ext.refl _, okR, nlR, Nat.le_refl _, rfl, fun w m => (by cases m), fun ws => ?_⟩
    show (0 : Int) + (combL []).1 * 2 ^ 0 = 0
    rfl
  | succ k ih =>
    intro hk
    obtain ⟨i1, i2, i3, i4, i5, i6, i7⟩ := ih (by omega)
    cases k with
    | zero =>
      have hw := hlt _ (mem1 0 (by omega))
      refine ⟨Ext.refl _, okR, nlR, Nat.le_add_right .., rfl, fun w m => ?_, fun ws => ?_⟩
      · rw [List.mem_singleton.mp m]
        exact hw.2
      · have b := pb ws 0 (by omega)
        have g01 := bitP_01 okR ws (prs.getD 0 (0, 0))
        rw [wstep, cstep ws 0 (by omega), b.1]
        show valI [bit ws R (prs.getD 0 (0, 0)).2] + bopI .or (bit ws R (prs.getD 0 (0, 0)).1) (bit ws R (prs.getD 0 (0, 0)).2 * 0) * 2 ^ 1 = 0 + (2 * bit ws R (prs.getD 0 (0, 0)).1 + bit ws R (prs.getD 0 (0, 0)).2) * 2 ^ 0
        show bit ws R (prs.getD 0 (0, 0)).2 + 2 * 0 + bopI .or (bit ws R (prs.getD 0 (0, 0)).1) (bit ws R (prs.getD 0 (0, 0)).2 * 0) * 2 ^ 1 = _
        unfold bopI
        have e2 : (2 : Int) ^ 1 = 2 := rfl
        have e3 : (2 : Int) ^ 0 = 1 := rfl
        rw [e2, e3]
        dsimp only
        rw [Int.mul_zero, Int.mul_zero]
        omega
    | succ k =>
      have hp := hlt _ (mem1 (k + 1) (by omega))
      have ho := hlo _ (mem2 k (by omega))
      show Ext R ((outF R prs out (k + 1)).1 ++ [outRow prs out k]) ∧ RowsOk N ((outF R prs out (k + 1)).1 ++ [outRow prs out k]) ∧ NoLats ((outF R prs out (k + 1)).1 ++ [outRow prs out k]) ∧ ((outF R prs out (k + 1)).1 ++ [outRow prs out k]).length ≤ R.length + (k + 1 + 1) ∧ ((outF R prs out (k + 1)).2 ++ [(outF R prs out (k + 1)).1.length]).length = k + 1 + 1 ∧ (∀ w ∈ (outF R prs out (k + 1)).2 ++ [(outF R prs out (k + 1)).1.length], w < ((outF R prs out (k + 1)).1 ++ [outRow prs out k]).length) ∧
        ∀ ws, valI (((outF R prs out (k + 1)).2 ++ [(outF R prs out (k + 1)).1.length]).map (bit ws ((outF R prs out (k + 1)).1 ++ [outRow prs out k]))) + (combL ((prs.take (k + 1 + 1)).map (bitP ws R))).1 * 2 ^ (k + 1 + 1) = worthN (bit ws R) cols (k + 1 + 1)
      generalize outF R prs out (k + 1) = s at *
      obtain ⟨S, os⟩ := s
      dsimp only at *
      have l1 := i1.len
      have okS : RowsOk N (S ++ [outRow prs out k]) := i2.snoc (r := outRow prs out k) ⟨by have := hp.2; omega, by have := ho.1; omega⟩
      have eS : Ext S (S ++ [outRow prs out k]) := Ext.app _ _
      refine ⟨i1.trans eS, okS, i3.snoc (r := outRow prs out k) True.intro, by rw [List.length_append, List.length_singleton]; omega, by rw [List.length_append, i5]; rfl, fun w m => ?_, fun ws => ?_⟩
      · rw [List.length_append, List.length_singleton]
        rcases List.mem_append.mp m with z | z
        · have := i6 w z; omega
        · rw [List.mem_singleton.mp z]; omega
      · have hlast : (S ++ [outRow prs out k])[S.length]? = some (outRow prs out k) := by rw [List.getElem?_append_right (Nat.le_refl _), Nat.sub_self]; rfl
        have hb : bit ws (S ++ [outRow prs out k]) S.length = bopI .xor (bit ws R (prs.getD (k + 1) (0, 0)).2) (bit ws R (out.getD k (0, 0)).1) := by
          rw [bit_bin okS hlast, (i1.trans eS).bit ws hp.2, (i1.trans eS).bit ws ho.1]
        have hold : os.map (bit ws (S ++ [outRow prs out k])) = os.map (bit ws S) := List.map_congr_left fun w m => eS.bit ws (i6 w m)
        rw [List.map_append, List.map_cons, List.map_nil, valI_snoc, List.length_map, i5, hold, hb, wstep, ← i7 ws, (pb ws (k + 1) (by omega)).1, cstep ws (k + 1) (by omega)]
        have hc : bit ws R (out.getD k (0, 0)).1 = (combL ((prs.take (k + 1)).map (bitP ws R))).1 := congrArg Prod.fst (wb ws k (by omega))
        rw [hc]
        have hz := (pb ws (k + 1) (by omega)).2
        have g01 := bitP_01 okR ws (prs.getD (k + 1) (0, 0))
        have cc := (c01 ws (k + 1)).1
        have x := xor_bits g01.1 g01.2 cc hz
        show valI (os.map (bit ws S)) + bopI .xor (bit ws R (prs.getD (k + 1) (0, 0)).2) (combL ((prs.take (k + 1)).map (bitP ws R))).1 * 2 ^ (k + 1) + bopI .or (bit ws R (prs.getD (k + 1) (0, 0)).1) (bit ws R (prs.getD (k + 1) (0, 0)).2 * (combL ((prs.take (k + 1)).map (bitP ws R))).1) * 2 ^ (k + 1 + 1) = _
        have x : bopI .xor (bit ws R (prs.getD (k + 1) (0, 0)).2) (combL ((prs.take (k + 1)).map (bitP ws R))).1 + 2 * bopI .or (bit ws R (prs.getD (k + 1) (0, 0)).1) (bit ws R (prs.getD (k + 1) (0, 0)).2 * (combL ((prs.take (k + 1)).map (bitP ws R))).1) = 2 * bit ws R (prs.getD (k + 1) (0, 0)).1 + bit ws R (prs.getD (k + 1) (0, 0)).2 + (combL ((prs.take (k + 1)).map (bitP ws R))).1 := x
        generalize bopI .xor (bit ws R (prs.getD (k + 1) (0, 0)).2) (combL ((prs.take (k + 1)).map (bitP ws R))).1 = A at *
        generalize bopI .or (bit ws R (prs.getD (k + 1) (0, 0)).1) (bit ws R (prs.getD (k + 1) (0, 0)).2 * (combL ((prs.take (k + 1)).map (bitP ws R))).1) = B at *
        generalize bit ws R (prs.getD (k + 1) (0, 0)).1 = g at *
        generalize bit ws R (prs.getD (k + 1) (0, 0)).2 = p at *
        generalize (combL ((prs.take (k + 1)).map (bitP ws R))).1 = c at *
        rw [Int.pow_succ (2 : Int) (k + 1)]
        generalize (2 : Int) ^ (k + 1) = P
        generalize valI (os.map (bit ws S)) = W
        grind
theorem out_all {N : Str → Prop} {rs R : List Row} {prs out : List (Nat × Nat)} {cols : List (List Nat)} (eR : Ext rs R) (okR : RowsOk N R) (nlR : NoLats R) (hpl : prs.length = cols.length) (hol : out.length = cols.length) (hlt : ∀ p ∈ prs, LtP R p) (hlo : ∀ p ∈ out, LtP R p) (hdk : DotsOk rs cols) (hsz : R.length + cols.length ≤ rs.length + (3 * cols.length * cols.length + 3 * cols.length + 1)) (hni : NewIns rs R)
    (pb : ∀ (ws : List (Str × Int)) (k : Nat), k < cols.length → PairOk (bit ws R) (prs.getD k (0, 0)) (cols.getD k [])) (wb : ∀ (ws : List (Str × Int)) (k : Nat), k < cols.length → bitP ws R (out.getD k (0, 0)) = combL ((prs.take (k + 1)).map (bitP ws R))) :
    OutOk N rs cols (outF R prs out cols.length).1 (outF R prs out cols.length).2 := by
  obtain ⟨i1, i2, i3, i4, i5, i6, i7⟩ := outF_ok eR okR nlR hpl hol hlt hlo pb wb cols.length (Nat.le_refl _)
  refine ⟨eR.trans i1, i2, i3, i5, i6, ⟨by omega, hni.trans (outF_ins _ _ _ _)⟩, fun ws => ?_⟩
  have e := i7 ws
  have ew : worthN (bit ws R) cols cols.length = worthN (bit ws rs) cols cols.length := by
    have key : ∀ n, worthN (bit ws R) cols n = worthN (bit ws rs) cols n := by
      intro n
      induction n with
      | zero => rfl
      | succ n ih =>
        show worthN (bit ws R) cols n + lin (bit ws R) n (cols.getD n []) = worthN (bit ws rs) cols n + lin (bit ws rs) n (cols.getD n [])
        rw [ih]
        congr 1
        unfold lin
        congr 1
        refine List.map_congr_left fun w hw => ?_
        by_cases c : n < cols.length
        · have : cols.getD n [] ∈ cols := by rw [List.getD_eq_getElem?_getD, List.getElem?_eq_getElem c]; exact List.getElem_mem _
          rw [eR.bit ws (hdk _ this w hw)]
        · rw [List.getD_eq_getElem?_getD, List.getElem?_eq_none (by omega)] at hw
          cases hw
    exact key _
  rw [← ew, ← e, bitsI_shift]
  have h01 : ∀ x ∈ (outF R prs out cols.length).2.map (bit ws (outF R prs out cols.length).1), is01 x := fun x m => by
    obtain ⟨w, _, rfl⟩ := List.mem_map.mp m
    exact bit_01 i2 ws w
  have := bitsI_valI h01
  rw [List.length_map, i5] at this
  exact this.symm

theorem lens_max {cols : List (List Nat)} {m : Int} (h : ∀ y ∈ natI (0 :: lens cols), y ≤ m) (h2 : m ≤ 2) : ∀ xs ∈ cols, xs.length ≤ 2 := fun xs hx => by
  have := h (xs.length : Int) (by
    unfold natI
    exact List.mem_map.mpr ⟨xs.length, List.mem_cons_of_mem _ (List.mem_map.mpr ⟨xs, hx, rfl⟩), rfl⟩)
  omega
theorem lens_over {cols : List (List Nat)} {m : Int} (h : m ∈ natI (0 :: lens cols)) (h2 : 2 < m) : ∃ xs ∈ cols, 2 < xs.length := by
  unfold natI at h
  obtain ⟨z, hz, rfl⟩ := List.mem_map.mp h
  rcases List.mem_cons.mp hz with e | e
  · rw [e] at h2; exact absurd h2 (by decide)
  · obtain ⟨xs, hx, rfl⟩ := List.mem_map.mp e
    exact ⟨xs, hx, by omega⟩
theorem PairsAt.get' {H : Hp} {p : Addr} {prs : List (Nat × Nat)} {qs : List Addr} (e : H p = some (.lst (qs.map V.ref))) (h : A2 (PairR H) qs prs) {k : Nat} (hk : k < prs.length) : ∃ q, atI (qs.map V.ref) (k : Int) = some (.ref q) ∧ H q = some (.tup [.int ((prs.getD k (0, 0)).1 : Int), .int ((prs.getD k (0, 0)).2 : Int)]) := by
  have hq : k < qs.length := by rw [h.1]; exact hk
  refine ⟨qs[k], ref_at (List.getElem?_eq_getElem hq), ?_⟩
  have := h.2 k _ _ (List.getElem?_eq_getElem hq) (List.getElem?_eq_getElem hk)
  rw [List.getD_eq_getElem?_getD, List.getElem?_eq_getElem hk]
  exact this
def sp_summed (K : PySem.W.Frag) : Sp := fun vs H Q E => ∃ (sh r h c al : Addr) (ps : List Addr) (cols : List (List Nat)) (rs : List Row) (ns : List Int) (N : Str → Prop), vs = [.ref sh, .ref h, .ref al] ∧ HeapAt K H h c ps cols ∧ SheetAt K H sh r ∧ RowsM H r rs ∧ r ∉ ps ∧ r ≠ c ∧ cols.length ≤ 64 ∧ H al = some (.lst (ns.map V.int)) ∧ al ≠ r ∧ RowsOk N rs ∧ NoLats rs ∧ DotsOk rs cols ∧ rs.length ≤ 500000 ∧
  ((∃ xs ∈ cols, 2 < xs.length) → ∀ C H', IsC K "TooMany" C → Same H H' → E (.ref C) none H') ∧
  ((∀ xs ∈ cols, xs.length ≤ 2) → ∀ p outs R H', H p = none → OutOk N rs cols R outs → NatsAt H' p outs → HeapAt K H' h c ps cols → SheetAt K H' sh r → RowsM H' r R → Fr [r] H H' → Q (.ref p) H')
theorem ok_summed (T : Top K mg) : FnOk P w K mg base (L2.CX P w) 71 T.a_summed T.d_summed ["sheet", "heap", "splits"] (sp_summed K) := by
  refine T.f_summed.okX sc_summed (fun vs H Q E h => ?_) (fun cdv A outer s H vs Q E hr h => ?_)
  · obtain ⟨sh, r, h, c, al, ps, cols, rs, ns, N, rfl, _⟩ := h
    rfl
  obtain ⟨sh, r, h, c, al, ps, cols, rs, ns, N, rfl, h⟩ := h
  refine ⟨_, (pss_cons (ps_if (pt_cmpR op_gt (pe_callB (c_maxK K) (by rfl) T.z_max (by decide +kernel) (pa_cons (pe_op op_cat (pe_lst (pa_cons pe_int pa_nil)) (pe_meth0 (pv 1) T.cl_Heap T.m_Heap_heights (ok_Heap_heights T) (hr.mono (by decide)) T.b_Heap_heights .nil pass0)) pa_nil)) pe_int (nomark _)) (pss_one (ps_raise rfl (takes_of rfl rfl rfl rfl) (pmk_own PySem.F.excBase_ValueError T.x_TooMany T.gc_TooMany T.kc_TooMany (raises_own T.xb_TooMany T.xt_TooMany) (by rfl)))) pss_nil)
      (pss_cons (ps_set (i := 3) sc_summed.nd rfl (.inl rfl) (pe_meth (pv 0) T.cl_Sheet T.m_Sheet_add (ok_Sheet_add T) (hr.mono (by decide)) T.b_Sheet_add .nil pass0 (pa_cons (pe_tup (pa_cons pe_str (pa_cons pe_int pa_nil))) pa_nil)))
      (pss_cons (ps_set (i := 4) sc_summed.nd rfl (.inl rfl) (pe_lst pa_nil))
      (pss_cons (ps_for (passes_of rfl) rfl (pi_range1 (by rfl) T.z_range (pa_cons (pe_fld (pv 1) rfl) pa_nil)) (pg_name (i := 5) sc_summed.nd rfl (.inl rfl))
      (pss_cons (ps_set (i := 6) sc_summed.nd rfl (.inl rfl) (pe_meth (pv 1) T.cl_Heap T.m_Heap_column (ok_Heap_column T) (hr.mono (by decide)) T.b_Heap_column .nil pass0 (pa_cons (pv 5) pa_nil)))
      (pss_one (ps_if (pt_cmpR op_eq (pe_callB (c_lenK K) (by rfl) T.z_len PySem.boot_len (pa_cons (pv 6) pa_nil)) pe_int (nomark _)) (pss_cons (ps_set (i := 7) sc_summed.nd rfl (.inl rfl) (pe_meth (pv 0) T.cl_Sheet T.m_Sheet_add (ok_Sheet_add T) (hr.mono (by decide)) T.b_Sheet_add .nil pass0 (pa_cons (pe_tup (pa_cons pe_str (pa_cons (pe_ix (ix_listK K) (pv 6) pe_int (fun _ _ => rfl)) (pa_cons (pe_ix (ix_listK K) (pv 6) pe_int (fun _ _ => rfl)) pa_nil)))) pa_nil)))
      (pss_one (ps_expr (pe_bm PySem.F.plainAttrs_list PySem.F.slot_list_append PySem.F.type_list_append mt_append (pv 4) (pa_cons (pe_tup (pa_cons (pv 7) (pa_cons (pe_meth (pv 0) T.cl_Sheet T.m_Sheet_add (ok_Sheet_add T) (hr.mono (by decide)) T.b_Sheet_add .nil pass0 (pa_cons (pe_tup (pa_cons pe_str (pa_cons (pe_ix (ix_listK K) (pv 6) pe_int (fun _ _ => rfl)) (pa_cons (pe_ix (ix_listK K) (pv 6) pe_int (fun _ _ => rfl)) pa_nil)))) pa_nil)) pa_nil))) pa_nil))))) (pss_one (ps_if (pt_cmpR op_eq (pe_callB (c_lenK K) (by rfl) T.z_len PySem.boot_len (pa_cons (pv 6) pa_nil)) pe_int (nomark _)) (pss_one (ps_expr (pe_bm PySem.F.plainAttrs_list PySem.F.slot_list_append PySem.F.type_list_append mt_append (pv 4) (pa_cons (pe_tup (pa_cons (pv 3) (pa_cons (pe_ix (ix_listK K) (pv 6) pe_int (fun _ _ => rfl)) pa_nil))) pa_nil)))) (pss_one (ps_expr (pe_bm PySem.F.plainAttrs_list PySem.F.slot_list_append PySem.F.type_list_append mt_append (pv 4) (pa_cons (pe_tup (pa_cons (pv 3) (pa_cons (pv 3) pa_nil))) pa_nil))))))))))
      (pss_cons (ps_set (i := 8) sc_summed.nd rfl (.inl rfl) (pe_call (ok_prefixes T) (hr.mono (by decide)) (by rfl) T.g_prefixes T.f_prefixes.kp T.b_prefixes .nil pass0 (pa_cons (pv 0) (pa_cons (pv 4) (pa_cons (pv 2) pa_nil)))))
      (pss_cons (ps_set (i := 9) sc_summed.nd rfl (.inl rfl) (pe_lst pa_nil))
      (pss_cons (ps_for (passes_of rfl) rfl (pi_range1 (by rfl) T.z_range (pa_cons (pe_fld (pv 1) rfl) pa_nil)) (pg_name (i := 5) sc_summed.nd rfl (.inl rfl))
      (pss_one (ps_if (pt_cmpR op_eq (pv 5) pe_int (nomark _)) (pss_one (ps_expr (pe_bm PySem.F.plainAttrs_list PySem.F.slot_list_append PySem.F.type_list_append mt_append (pv 9) (pa_cons (pe_ix (ix_tupK K) (pe_ix (ix_listK K) (pv 4) pe_int (fun _ _ => rfl)) pe_int (fun _ _ => rfl)) pa_nil)))) (pss_one (ps_expr (pe_bm PySem.F.plainAttrs_list PySem.F.slot_list_append PySem.F.type_list_append mt_append (pv 9) (pa_cons (pe_meth (pv 0) T.cl_Sheet T.m_Sheet_add (ok_Sheet_add T) (hr.mono (by decide)) T.b_Sheet_add .nil pass0 (pa_cons (pe_tup (pa_cons pe_str (pa_cons (pe_ix (ix_tupK K) (pe_ix (ix_listK K) (pv 4) (pv 5) (fun _ _ => rfl)) pe_int (fun _ _ => rfl)) (pa_cons (pe_ix (ix_tupK K) (pe_ix (ix_listK K) (pv 8) (pe_op op_sub (pv 5) pe_int) (fun _ _ => rfl)) pe_int (fun _ _ => rfl)) pa_nil)))) pa_nil)) pa_nil)))))))
      (pss_one (ps_ret (pv 9)))))))))), ?_⟩
  try dsimp only [cxOf, Cx.nox, Cx.wish]
  simp only [L2.start, List.map_cons, List.map_nil, List.length_cons, List.length_nil, Nat.reduceAdd, Nat.reduceSub, List.replicate_succ, List.replicate_zero, List.cons_append, List.nil_append]
  obtain ⟨ha, hsh, hM, rps, rc, hcl, hal, alr, ok, nl, dk, hrl, hE, hQ⟩ := h
  obtain ⟨⟨C, dx, hs, hC⟩, hc⟩ := id ha
  obtain rfl := hC.one T.nc_Heap
  have c1 := T.cl_Heap
  have c2 := T.n_Heap_many
  have c4 := T.cl_Sheet
  have hll : (lens cols).length = cols.length := List.length_map ..
  walk_at "ws"
  rename_i p0 H0 n0 s0 e0
  refine ⟨h, c, ps, cols, rfl, ha.same s0, by omega, fun p1 H1 n1 s1 e1 => ?_⟩
  have e1 : H1 p1 = some (.lst ((natI (lens cols)).map V.int)) := e1
  have e01 := s1 _ _ e0
  have hz1 : ((natI (lens cols)).map V.int).length = cols.length := by rw [List.length_map, natI_len, hll]
  walk_at "ws"
  · simp only [List.length_cons, List.length_nil]
    omega
  intro p2 H2 n2 s2 e2
  have e2 : H2 p2 = some (.lst ((natI (0 :: lens cols)).map V.int)) := e2
  have s02 := (s0.trans s1).trans s2
  walk_at "ws"
  refine w_maxL (SqL.of e2) (by rw [natI_len]; exact Nat.succ_pos _) fun m hm1 hm2 => ?_
  walk_at "ws"
  · exact hE (lens_over hm1 (by assumption)) _ _ T.nc_TooMany s02
  have h2 : ∀ xs ∈ cols, xs.length ≤ 2 := lens_max hm2 (by omega)
  have hsh2 := hsh.same s02
  have hM2 := hM.same s02
  have ha2 := ha.same s02
  have hal2 := s02 _ _ hal
  obtain ⟨C, dxs2, es2, eC⟩ := id hsh2
  obtain rfl := eC.one T.nc_Sheet
  have eh2 := s02 _ _ hs
  walk_at "ws"
  rename_i p3 H3 n3 s3 e3
  refine use_add (x := .fix 0) (hsh2.same s3) (hM2.same s3) e3 (by omega) fun H4 hs4 hM4 f4 => ?_
  have ok1 : RowsOk N (rs ++ [Row.fix 0]) := ok.snoc (r := .fix 0) (.inl rfl)
  have nl1 : NoLats (rs ++ [Row.fix 0]) := nl.snoc (r := .fix 0) True.intro
  have dk1 : DotsOk (rs ++ [Row.fix 0]) cols := fun xs m w hw => by
    rw [List.length_append]
    have := dk xs m w hw
    omega
  have hz : (rs ++ [Row.fix 0])[rs.length]? = some (.fix 0) := by rw [List.getElem?_append_right (Nat.le_refl _), Nat.sub_self]; rfl
  have hr1l : (rs ++ [Row.fix 0]).length = rs.length + 1 := by rw [List.length_append]; rfl
  have hrs1 : ∃ t, rs ++ [Row.fix 0] = rs ++ t := ⟨_, rfl⟩
  have hni0 : NewIns rs (rs ++ [Row.fix 0]) := NewIns.app _ fun m k z => by simp only [List.mem_cons, List.not_mem_nil, or_false, reduceCtorEq] at z
  generalize rs ++ [Row.fix 0] = rs1 at *
  walk_at "ws"
  rename_i pp H5 n5 s5 e5
  have ppr : pp ≠ r := hM4.fresh n5
  have s5' := s5
  have hr : h ≠ r := fun z => by
    obtain ⟨_, e, _⟩ := hM
    rw [← z, hs] at e
    cases e
  have ha5 := (((ha2.same s3).fr f4 (fun z => hr (List.mem_singleton.mp z)) (fun z => rc (List.mem_singleton.mp z).symm) (fun p m z => rps (by rw [← List.mem_singleton.mp z]; exact m)))).same s5
  have hs5 := hs4.same s5
  have hM5 := hM4.same s5
  have hal5 := s5 _ _ (f4 _ _ (s3 _ _ hal2) (by simpa using alr))
  have f05 : Fr [r] H H5 := ((Fr.of (s02.trans s3)).trans f4).trans (Fr.of s5)
  have npp : H pp = none := by
    cases e : H pp with
    | none => rfl
    | some o =>
      have := f4 _ _ (s3 _ _ (s02 _ _ e)) (by simpa using ppr)
      rw [n5] at this
      cases this
  obtain ⟨⟨C, dx5, eh5, eC5⟩, hc5⟩ := id ha5
  obtain rfl := eC5.one T.nc_Heap
  walk_at "ws"
  refine for_r (fun i σ' G => ∃ (qs : List Addr) (y5 y6 y7 : Option V), σ' = [some (.ref sh), some (.ref h), some (.ref al), some (.int (rs.length : Int)), some (.ref pp), y5, y6, y7, none, none] ∧ Fr [r, pp] H5 G ∧ SheetAt K G sh r ∧ RowsM G r (pairsF rs.length rs1 (cols.take i)).1 ∧ G pp = some (.lst (qs.map V.ref)) ∧ A2 (PairR G) qs (pairsF rs.length rs1 (cols.take i)).2)
    ⟨[], _, _, _, rfl, Fr.refl, hs5, hM5, e5, A2.nil⟩ (fun i σ' G hi q => ?_) (fun σ' G q => ?_)
  · obtain ⟨qs, y5, y6, y7, rfl, fG, hsG, hMG, epp, hA⟩ := q
    have hi' : i < cols.length := by omega
    have hxi : cols[i]? = some cols[i] := List.getElem?_eq_getElem hi'
    have hx2 := h2 _ (List.getElem_mem hi')
    have I := pairsF_ok ok1 nl1 hz (cols.take i) (fun xs m => h2 xs (List.mem_of_mem_take m)) (fun xs m => dk1 xs (List.mem_of_mem_take m))
    have hsn := pairsF_snoc rs.length rs1 (cols.take i) cols[i]
    rw [← take_snoc hxi] at hsn
    rw [hsn]
    have hRl := I.size
    have hPl := I.len
    rw [List.length_take, Nat.min_eq_left (by omega)] at hRl hPl
    generalize pairsF rs.length rs1 (cols.take i) = s at *
    obtain ⟨R, prs⟩ := s
    dsimp only at *
    have haG := ha5.fr fG (fun z => by
      rcases List.mem_cons.mp z with z | z
      · obtain ⟨_, e, _⟩ := hM5
        rw [z, e] at eh5; cases eh5
      · rw [List.mem_singleton.mp z, e5] at eh5; cases eh5) (fun z => by
      rcases List.mem_cons.mp z with z | z
      · exact rc z.symm
      · exact ha.trk c (.inr (.inl rfl)) (by rw [List.mem_singleton.mp z]; exact npp)) (fun p m z => by
      rcases List.mem_cons.mp z with z | z
      · exact rps (by rw [← z]; exact m)
      · exact ha.trk p (.inr (.inr m)) (by rw [List.mem_singleton.mp z]; exact npp))
    obtain ⟨⟨C, dxG, ehG, eCG⟩, hcG⟩ := id haG
    obtain rfl := eCG.one T.nc_Heap
    obtain ⟨C, dxsG, esG, eCs⟩ := id hsG
    obtain rfl := eCs.one T.nc_Sheet
    have hqz : (qs.map V.ref).length ≤ 1000 := by rw [List.length_map, hA.1, hPl]; omega
    have tnG : ∀ b xs, G b = some (.tup xs) → b ∉ [r] := fun b xs e m => by
      obtain ⟨_, e2, _⟩ := hMG
      rw [List.mem_singleton.mp m, e2] at e; cases e
    have put : ∀ (G1 : Hp) (pq : Addr) (pr : Nat × Nat) (R2 : List Row), Fr [r] G G1 → SheetAt K G1 sh r → RowsM G1 r R2 → PairR G1 pq pr → Fr [r, pp] H5 (upd G1 pp (.lst (qs.map V.ref ++ [.ref pq]))) ∧ SheetAt K (upd G1 pp (.lst (qs.map V.ref ++ [.ref pq]))) sh r ∧ RowsM (upd G1 pp (.lst (qs.map V.ref ++ [.ref pq]))) r R2 ∧ (upd G1 pp (.lst (qs.map V.ref ++ [.ref pq]))) pp = some (.lst ((qs ++ [pq]).map V.ref)) ∧ A2 (PairR (upd G1 pp (.lst (qs.map V.ref ++ [.ref pq])))) (qs ++ [pq]) (prs ++ [pr]) := fun G1 pq pr R2 f hs1 hM1 hp => by
      have epp1 := f _ _ epp (by simpa using ppr)
      have fp : Fr [pp] G1 (upd G1 pp (.lst (qs.map V.ref ++ [.ref pq]))) := Fr.put (List.mem_cons_self ..)
      have tn1 : ∀ b xs, G1 b = some (.tup xs) → b ∉ [pp] := fun b xs e m => by
        rw [List.mem_singleton.mp m, epp1] at e; cases e
      have shp : sh ≠ pp := fun z => by
        obtain ⟨_, _, e, _⟩ := hs1
        rw [z, epp1] at e
        cases e
      refine ⟨(fG.trans (f.mono fun m hm => by rw [List.mem_singleton.mp hm]; exact List.mem_cons_self ..)).trans (Fr.put (List.mem_cons_of_mem _ (List.mem_cons_self ..))), hs1.fr fp (by simpa using shp), hM1.fr fp (by simpa using ppr.symm) (fun p x m e => tn1 _ _ e m), by rw [upd_same, List.map_append]; rfl, A2.snoc (hA.mono fun _ _ e => (e.fr f tnG).fr fp tn1) (hp.fr fp tn1)⟩
    walk_at "ws"
    refine ⟨h, c, ps, cols, i, cols[i], rfl, haG, hxi, fun pd G1 n1 s1 e1 => ?_⟩
    have e1 : G1 pd = some (.lst ((natI cols[i]).map V.int)) := e1
    have hs1 := hsG.same s1
    have hM1 := hMG.same s1
    have epp1 := s1 _ _ epp
    have esG1 := s1 _ _ esG
    generalize hxe : cols[i] = xs at *
    match xs, hx2 with
    | [], _ =>
      have e1 : G1 pd = some (.lst []) := e1
      walk_at "ws"
      rename_i pq G2 n2 s2 e2
      have epp2 := s2 _ _ epp1
      obtain ⟨q1, q2, q3, q4, q5⟩ := put G2 pq (rs.length, rs.length) R (Fr.of (s1.trans s2)) (hs1.same s2) (hM1.same s2) e2
      exact ⟨_, _, _, _, rfl, q1, q2, q3, q4, q5⟩
    | [x], _ =>
      have e1 : G1 pd = some (.lst [.int (x : Int)]) := e1
      walk_at "ws"
      rename_i pq G2 n2 s2 e2
      obtain ⟨q1, q2, q3, q4, q5⟩ := put G2 pq (rs.length, x) R (Fr.of (s1.trans s2)) (hs1.same s2) (hM1.same s2) e2
      exact ⟨_, _, _, _, rfl, q1, q2, q3, q4, q5⟩
    | [x, y], _ =>
      have e1 : G1 pd = some (.lst [.int (x : Int), .int (y : Int)]) := e1
      have pdr : pd ≠ r := hMG.fresh (by assumption)
      walk_at "ws"
      rename_i p2 G2 n2 s2 e2
      refine use_add (x := .bin .and x y) (hs1.same s2) (hM1.same s2) e2 (by omega) fun G3 hs3 hM3 f3 => ?_
      have e13 := f3 _ _ (s2 _ _ e1) (by simpa using pdr)
      have epp3 := f3 _ _ (s2 _ _ epp1) (by simpa using ppr)
      obtain ⟨C, dxs3, es3, eCs3⟩ := id hs3
      obtain rfl := eCs3.one T.nc_Sheet
      walk_at "ws"
      rename_i p4 G4 n4 s4 e4
      refine use_add (x := .bin .xor x y) (hs3.same s4) (hM3.same s4) e4 (by rw [List.length_append]; simp only [List.length_cons, List.length_nil]; omega) fun G5 hs5' hM5' f5 => ?_
      have epp5 := f5 _ _ (s4 _ _ epp3) (by simpa using ppr)
      walk_at "ws"
      rename_i pq G6 n6 s6 e6
      have epp6 := s6 _ _ epp5
      have e6 : PairR G6 pq (R.length, R.length + 1) := by
        have : (R ++ [Row.bin .and x y]).length = R.length + 1 := by rw [List.length_append]; rfl
        rw [this] at e6
        exact e6
      have hM6 : RowsM G6 r (R ++ [Row.bin .and x y, Row.bin .xor x y]) := by
        have := hM5'.same s6
        rw [List.append_assoc] at this
        exact this
      obtain ⟨q1, q2, q3, q4, q5⟩ := put G6 pq (R.length, R.length + 1) _ (((((Fr.of (s1.trans s2)).trans f3).trans (Fr.of s4)).trans f5).trans (Fr.of s6)) (hs5'.same s6) hM6 e6
      exact ⟨_, _, _, _, rfl, q1, q2, q3, q4, q5⟩
  · obtain ⟨qs, y5, y6, y7, rfl, fG, hsG, hMG, epp, hA⟩ := q
    rw [Int.toNat_natCast, List.take_of_length_le (Nat.le_refl _)] at hMG hA
    have P := pairsF_ok ok1 nl1 hz cols h2 dk1
    have hni1 := pairsF_ins rs.length rs1 cols
    generalize hps : pairsF rs.length rs1 cols = s at *
    obtain ⟨R, prs⟩ := s
    dsimp only at *
    have hRl : R.length ≤ rs1.length + 2 * cols.length := P.size
    have hPl : prs.length = cols.length := P.len
    have Pok : RowsOk N R := P.ok
    have Pnl : NoLats R := P.nl
    have Plt : ∀ p ∈ prs, LtP R p := P.lt
    have Pext : Ext rs1 R := P.ext
    have Pb : ∀ (ws : List (Str × Int)) (k : Nat), k < cols.length → PairOk (bit ws R) (prs.getD k (0, 0)) (cols.getD k []) := P.bits
    have halG := fG _ _ hal5 (fun z => by
      rcases List.mem_cons.mp z with z | z
      · exact alr z
      · rw [← List.mem_singleton.mp z, hal] at npp; cases npp)
    walk_at "ws"
    refine ⟨sh, r, pp, al, ns, prs, qs, R, N, rfl, by omega, hsG, hMG, epp, hA, halG, Pok, Pnl, Plt, by omega, fun pt H6 n6 hpt hs6 hM6 f6 => ?_⟩
    have O := preF_ok ns (by omega) Pok Pnl Plt
    have hni2 : NewIns R (preF ns prs R).rs := strF_ins _ _ _ _ _ _ _
    generalize preF ns prs R = S at *
    have hOl := O.len
    have hOc : 3 * cols.length * cols.length ≤ 3 * 64 * 64 := Nat.mul_le_mul (Nat.mul_le_mul_left 3 (by omega)) (by omega)
    have hOs : S.rs.length ≤ R.length + 3 * cols.length * cols.length := by
      have := O.size
      have e : prs.length - 0 = cols.length := by omega
      rw [e] at this
      omega
    have ext1 : Ext rs rs1 := by
      obtain ⟨t, ht⟩ : ∃ t, rs1 = rs ++ t := hrs1
      exact ⟨t, ht⟩
    have hni : NewIns rs S.rs := (hni0.trans hni1).trans hni2
    have eR : Ext rs S.rs := (ext1.trans Pext).trans O.ext
    have pbS : ∀ (ws : List (Str × Int)) (k : Nat), k < cols.length → PairOk (bit ws S.rs) (prs.getD k (0, 0)) (cols.getD k []) := fun ws k hk => by
      have b := Pb ws k hk
      have mp : prs.getD k (0, 0) ∈ prs := by rw [List.getD_eq_getElem?_getD, List.getElem?_eq_getElem (by omega)]; exact List.getElem_mem _
      have mc : cols.getD k [] ∈ cols := by rw [List.getD_eq_getElem?_getD, List.getElem?_eq_getElem hk]; exact List.getElem_mem _
      have lp := Plt _ mp
      have ec : colS (bit ws S.rs) (cols.getD k []) = colS (bit ws R) (cols.getD k []) := by
        unfold colS
        congr 1
        exact List.map_congr_left fun w hw => O.ext.bit ws (Nat.lt_of_lt_of_le (dk1 _ mc w hw) Pext.len)
      unfold PairOk at *
      rw [ec, O.ext.bit ws lp.1, O.ext.bit ws lp.2]
      exact b
    have wbS : ∀ (ws : List (Str × Int)) (k : Nat), k < cols.length → bitP ws S.rs (S.out.getD k (0, 0)) = combL ((prs.take (k + 1)).map (bitP ws S.rs)) := fun ws k hk => by
      have b := O.bits ws k (by omega)
      rw [b, List.drop_zero]
      exact congrArg combL (List.map_congr_left fun p q => (O.ext.bitP ws (Plt p (List.mem_of_mem_take q))).symm)
    have ltS : ∀ p ∈ prs, LtP S.rs p := fun p m => (Plt p m).ext O.ext
    have ALL := out_all eR O.ok O.nl hPl (by omega) ltS O.lt dk (by omega) hni pbS wbS
    have STEP := outF_ok eR O.ok O.nl hPl (by omega) ltS O.lt pbS wbS
    obtain ⟨qt, ept, hT⟩ := hpt
    have epp6 := f6 _ _ epp (by simpa using ppr)
    have tnG : ∀ b xs, G b = some (.tup xs) → b ∉ [r] := fun b xs e m => by
      obtain ⟨_, e2, _⟩ := hMG
      rw [List.mem_singleton.mp m, e2] at e; cases e
    have hA6 : A2 (PairR H6) qs prs := hA.mono fun _ _ e => e.fr f6 tnG
    have ptr : pt ≠ r := hMG.fresh n6
    have f0G : Fr [r, pp] H G := (f05.mono fun m hm => by rw [List.mem_singleton.mp hm]; exact List.mem_cons_self ..).trans fG
    have hpps : ∀ p ∈ ps, p ∉ [r, pp] := fun p m z => by
      rcases List.mem_cons.mp z with z | z
      · exact rps (by rw [← z]; exact m)
      · exact ha.trk p (.inr (.inr m)) (by rw [List.mem_singleton.mp z]; exact npp)
    have haG : HeapAt K G h c ps cols := ha.fr f0G (fun z => by
      rcases List.mem_cons.mp z with z | z
      · exact hr z
      · rw [← List.mem_singleton.mp z, hs] at npp; cases npp) (fun z => by
      rcases List.mem_cons.mp z with z | z
      · exact rc z.symm
      · exact ha.trk c (.inr (.inl rfl)) (by rw [List.mem_singleton.mp z]; exact npp)) hpps
    have ha6 := haG.fr f6 (by simpa using hr) (fun z => rc (List.mem_singleton.mp z).symm) (fun p m z => hpps p m (by rw [List.mem_singleton.mp z]; exact List.mem_cons_self ..))
    obtain ⟨⟨C, dx6, eh6, eC6⟩, _⟩ := id ha6
    obtain rfl := eC6.one T.nc_Heap
    walk_at "ws"
    rename_i po H7 n7 s7 e7
    have eh7 := s7 _ _ eh6
    have por : po ≠ r := hM6.fresh n7
    walk_at "ws"
    refine for_r (fun i σ' G2 => ∃ (y5 : Option V), i ≤ cols.length ∧ σ' = [some (.ref sh), some (.ref h), some (.ref al), some (.int (rs.length : Int)), some (.ref pp), y5, y6, y7, some (.ref pt), some (.ref po)] ∧ Fr [r, po] H7 G2 ∧ SheetAt K G2 sh r ∧ RowsM G2 r (outF S.rs prs S.out i).1 ∧ NatsAt G2 po (outF S.rs prs S.out i).2)
      ⟨_, Nat.zero_le _, rfl, Fr.refl, hs6.same s7, hM6.same s7, e7⟩ (fun i σ' G2 hi q => ?_) (fun σ' G2 q => ?_)
    · obtain ⟨y5, hic, rfl, f2, hs2, hM2, hn2⟩ := q
      have hi' : i < cols.length := by omega
      obtain ⟨i1, i2, i3, i4, i5, i6, i7⟩ := STEP i hic
      have epo : G2 po = some (.lst ((natI (outF S.rs prs S.out i).2).map V.int)) := hn2
      have hoz : ((natI (outF S.rs prs S.out i).2).map V.int).length ≤ 1000 := by rw [List.length_map, natI_len, i5]; omega
      have nk : ∀ {b : Addr} {o : HO}, H6 b = some o → b ≠ r → b ∉ [r, po] := fun {b o} e n z => by
        rcases List.mem_cons.mp z with z | z
        · exact n z
        · rw [← List.mem_singleton.mp z, e] at n7; cases n7
      have kp : ∀ {b : Addr} {o : HO}, H6 b = some o → b ≠ r → G2 b = some o := fun {b o} e n => f2 _ _ (s7 _ _ e) (nk e n)
      have tn6 : ∀ b xs, H6 b = some (.tup xs) → b ≠ r := fun b xs e z => by
        obtain ⟨_, e2, _⟩ := hM6
        rw [z, e2] at e; cases e
      have eppG := kp epp6 ppr
      have eptG := kp ept ptr
      have hAG : A2 (PairR G2) qs prs := hA6.mono fun _ _ e => kp e (tn6 _ _ e)
      have hTG : A2 (PairR G2) qt S.out := hT.mono fun _ _ e => kp e (tn6 _ _ e)
      obtain ⟨q1, g1, g2⟩ := PairsAt.get' eppG hAG (k := i) (by omega)
      walk_at "ws"
      · obtain rfl : i = 0 := by omega
        refine w_ixL (SqL.of eppG) g1 ?_
        walk_at "ws"
        rw [nat_snoc]
        have hrp : Fr [po] G2 (upd G2 po (.lst ((natI ((outF S.rs prs S.out 0).2 ++ [(prs.getD 0 (0, 0)).2])).map V.int))) := Fr.put (List.mem_cons_self ..)
        have shp : sh ≠ po := fun z => by
          obtain ⟨_, _, e, _⟩ := hs2
          rw [z, epo] at e
          cases e
        exact ⟨_, hi', rfl, f2.trans (Fr.put (List.mem_cons_of_mem _ (List.mem_cons_self ..))), hs2.fr hrp (by simpa using shp), hM2.fr hrp (by simpa using por.symm) (fun p x m e => by
          rw [List.mem_singleton.mp m] at e
          rw [show G2 po = _ from e] at epo
          cases epo), upd_same⟩
      · obtain ⟨k, rfl⟩ : ∃ k, i = k + 1 := ⟨i - 1, by omega⟩
        obtain ⟨q2, g3, g4⟩ := PairsAt.get' eptG hTG (k := k) (by omega)
        obtain ⟨C, dxs2, es2, eCs2⟩ := id hs2
        obtain rfl := eCs2.one T.nc_Sheet
        walk_at "ws"
        refine w_ixL (SqL.of eppG) g1 ?_
        walk_at "ws"
        rw [show (((k + 1 : Nat) : Int) - 1) = (k : Int) by omega]
        refine w_ixL (SqL.of eptG) g3 ?_
        walk_at "ws"
        rename_i p8 G8 n8 s8 e8
        refine use_add (x := outRow prs S.out k) (hs2.same s8) (hM2.same s8) e8 (by omega) fun G9 hs9 hM9 f9 => ?_
        have epo9 := f9 _ _ (s8 _ _ epo) (by simpa using por)
        walk_at "ws"
        rw [nat_snoc]
        have hrp : Fr [po] G9 (upd G9 po (.lst ((natI ((outF S.rs prs S.out (k + 1)).2 ++ [(outF S.rs prs S.out (k + 1)).1.length])).map V.int))) := Fr.put (List.mem_cons_self ..)
        have shp : sh ≠ po := fun z => by
          obtain ⟨_, _, e, _⟩ := hs9
          rw [z, epo9] at e
          cases e
        exact ⟨_, hi', rfl, ((f2.trans (Fr.of s8)).trans (f9.mono fun m hm => by rw [List.mem_singleton.mp hm]; exact List.mem_cons_self ..)).trans (Fr.put (List.mem_cons_of_mem _ (List.mem_cons_self ..))), hs9.fr hrp (by simpa using shp), hM9.fr hrp (by simpa using por.symm) (fun p x m e => by
          rw [List.mem_singleton.mp m] at e
          rw [show G9 po = _ from e] at epo9
          cases epo9), upd_same⟩
    · obtain ⟨y5, hic, rfl, f2, hs2, hM2, hn2⟩ := q
      rw [Int.toNat_natCast] at hM2 hn2
      walk_at "ws"
      have f07 : Fr [r, pp] H H7 := (f0G.trans (f6.mono fun m hm => by rw [List.mem_singleton.mp hm]; exact List.mem_cons_self ..)).trans (Fr.of s7)
      have npo : H po = none := by
        cases e : H po with
        | none => rfl
        | some o =>
          by_cases z : po = pp
          · rw [z, npp] at e; cases e
          · have := f6 _ _ (f0G _ _ e (by simp only [List.mem_cons, List.not_mem_nil, or_false, not_or]; exact ⟨por, z⟩)) (by simpa using por)
            rw [n7] at this
            cases this
      have fAll : Fr [r] H G2 := fun b o e nb => f2 b o (f07 b o e fun m => by
        rcases List.mem_cons.mp m with z | z
        · exact nb (by rw [z]; exact List.mem_cons_self ..)
        · rw [List.mem_singleton.mp z, npp] at e; cases e) fun m => by
        rcases List.mem_cons.mp m with z | z
        · exact nb (by rw [z]; exact List.mem_cons_self ..)
        · rw [List.mem_singleton.mp z, npo] at e; cases e
      exact hQ h2 po _ _ G2 npo ALL hn2 (ha.fr fAll (by simpa using hr) (fun z => rc (List.mem_singleton.mp z).symm) (fun p m z => rps (by rw [← List.mem_singleton.mp z]; exact m))) hs2 hM2 fAll

/-! three dots pressed -/
def sp_Heap_press (K : PySem.W.Frag) : Sp := fun vs H Q E => ∃ (s c sh r : Addr) (ps : List Addr) (cols : List (List Nat)) (rs : List Row) (k : Nat) (xs : List Nat), vs = [.ref s, .ref sh, .int (k : Int)] ∧ HeapAt K H s c ps cols ∧ SheetAt K H sh r ∧ RowsM H r rs ∧ r ∉ ps ∧ r ≠ c ∧ cols[k]? = some xs ∧ (∀ xs ∈ cols, xs.length ≤ 600000) ∧ rs.length ≤ 800000 ∧
  (∀ (x y z : Nat) (t : List Nat) p H', xs = x :: y :: z :: t → H p = none → HeapAt K H' s c ps (pressC cols k rs.length t) → SheetAt K H' sh r → RowsM H' r (rs ++ pressR rs.length x y z) → Fr (r :: ps) H H' → PairAt H' p (rs.length + 1) (rs.length + 4) → Q (.ref p) H') ∧
  (xs.length < 3 → ∀ C, IsC K "TooFew" C → E (.ref C) none H)
theorem ok_Heap_press (T : Top K mg) : FnOk P w K mg base (L2.CX P w) 2 T.a_Heap_press T.d_Heap_press ["self", "sheet", "k"] (sp_Heap_press K) := by
  refine T.f_Heap_press.okX sc_Heap_press (fun vs H Q E h => ?_) (fun cdv A outer s H vs Q E hr h => ?_)
  · obtain ⟨s, c, sh, r, ps, cols, rs, k, xs, rfl, _⟩ := h
    rfl
  obtain ⟨s, c, sh, r, ps, cols, rs, k, xs, rfl, h⟩ := h
  refine ⟨_, (pss_cons (ps_set (i := 3) sc_Heap_press.nd rfl (.inl rfl) (pe_ix (ix_listK K) (pe_fld (pv 0) rfl) (pv 2) (fun _ _ => rfl)))
      (pss_cons (ps_if (pt_cmpR op_lt (pe_callB (c_lenK K) (by rfl) T.z_len PySem.boot_len (pa_cons (pv 3) pa_nil)) pe_int (nomark _)) (pss_one (ps_raise rfl (takes_of rfl rfl rfl rfl) (pmk_own PySem.F.excBase_ValueError T.x_TooFew T.gc_TooFew T.kc_TooFew (raises_own T.xb_TooFew T.xt_TooFew) (by rfl)))) pss_nil)
      (pss_cons (ps_set (i := 4) sc_Heap_press.nd rfl (.inl rfl) (pe_bm PySem.F.plainAttrs_list PySem.F.slot_list_pop PySem.F.type_list_pop mt_popAt (pv 3) (pa_cons pe_int pa_nil)))
      (pss_cons (ps_set (i := 5) sc_Heap_press.nd rfl (.inl rfl) (pe_bm PySem.F.plainAttrs_list PySem.F.slot_list_pop PySem.F.type_list_pop mt_popAt (pv 3) (pa_cons pe_int pa_nil)))
      (pss_cons (ps_set (i := 6) sc_Heap_press.nd rfl (.inl rfl) (pe_bm PySem.F.plainAttrs_list PySem.F.slot_list_pop PySem.F.type_list_pop mt_popAt (pv 3) (pa_cons pe_int pa_nil)))
      (pss_cons (ps_set (i := 7) sc_Heap_press.nd rfl (.inl rfl) (pe_meth (pv 1) T.cl_Sheet T.m_Sheet_add (ok_Sheet_add T) (hr.mono (by decide)) T.b_Sheet_add .nil pass0 (pa_cons (pe_tup (pa_cons pe_str (pa_cons (pv 4) (pa_cons (pv 5) pa_nil)))) pa_nil)))
      (pss_cons (ps_set (i := 8) sc_Heap_press.nd rfl (.inl rfl) (pe_meth (pv 1) T.cl_Sheet T.m_Sheet_add (ok_Sheet_add T) (hr.mono (by decide)) T.b_Sheet_add .nil pass0 (pa_cons (pe_tup (pa_cons pe_str (pa_cons (pv 7) (pa_cons (pv 6) pa_nil)))) pa_nil)))
      (pss_cons (ps_set (i := 9) sc_Heap_press.nd rfl (.inl rfl) (pe_meth (pv 1) T.cl_Sheet T.m_Sheet_add (ok_Sheet_add T) (hr.mono (by decide)) T.b_Sheet_add .nil pass0 (pa_cons (pe_tup (pa_cons pe_str (pa_cons (pv 4) (pa_cons (pv 5) pa_nil)))) pa_nil)))
      (pss_cons (ps_set (i := 10) sc_Heap_press.nd rfl (.inl rfl) (pe_meth (pv 1) T.cl_Sheet T.m_Sheet_add (ok_Sheet_add T) (hr.mono (by decide)) T.b_Sheet_add .nil pass0 (pa_cons (pe_tup (pa_cons pe_str (pa_cons (pv 7) (pa_cons (pv 6) pa_nil)))) pa_nil)))
      (pss_cons (ps_set (i := 11) sc_Heap_press.nd rfl (.inl rfl) (pe_meth (pv 1) T.cl_Sheet T.m_Sheet_add (ok_Sheet_add T) (hr.mono (by decide)) T.b_Sheet_add .nil pass0 (pa_cons (pe_tup (pa_cons pe_str (pa_cons (pv 9) (pa_cons (pv 10) pa_nil)))) pa_nil)))
      (pss_cons (ps_expr (pe_meth (pv 0) T.cl_Heap T.m_Heap_put (ok_Heap_put T) (hr.mono (by decide)) T.b_Heap_put .nil pass0 (pa_cons (pv 2) (pa_cons (pv 8) pa_nil))))
      (pss_cons (ps_expr (pe_meth (pv 0) T.cl_Heap T.m_Heap_put (ok_Heap_put T) (hr.mono (by decide)) T.b_Heap_put .nil pass0 (pa_cons (pe_op op_add (pv 2) pe_int) (pa_cons (pv 11) pa_nil))))
      (pss_one (ps_ret (pe_tup (pa_cons (pv 8) (pa_cons (pv 11) pa_nil))))))))))))))))), ?_⟩
  try dsimp only [cxOf, Cx.nox, Cx.wish]
  simp only [L2.start, List.map_cons, List.map_nil, List.length_cons, List.length_nil, Nat.reduceAdd, Nat.reduceSub, List.replicate_succ, List.replicate_zero, List.cons_append, List.nil_append]
  obtain ⟨ha, hsh, hM, rps, rc, hk, hsz, hrl, h1, h2⟩ := h
  obtain ⟨⟨C, dx, hs, hC⟩, hc⟩ := id ha
  obtain rfl := hC.one T.nc_Heap
  have c1 := T.cl_Heap
  have c2 := T.n_Heap_many
  have c3 := T.n_Heap_columns
  have c4 := T.cl_Sheet
  have hc1 := hc.1
  have hkl := (List.getElem?_eq_some_iff.mp hk).1
  obtain ⟨p, ys, hp, hys, hat, hpe⟩ := hc.ix hkl
  rw [hk] at hys
  cases hys
  walk_at "ws"
  refine w_ixL (SqL.of hc1) hat ?_
  walk_at "ws"
  · rename_i hlt
    rw [List.length_map, natI_len] at hlt
    exact h2 (by omega) _ T.nc_TooFew
  rename_i hge
  rw [List.length_map, natI_len] at hge
  obtain ⟨x, y, z, t, rfl⟩ : ∃ x y z t, xs = x :: y :: z :: t := by
    cases xs with
    | nil => simp only [List.length_nil] at hge; omega
    | cons x u => cases u with
      | nil => simp only [List.length_cons, List.length_nil] at hge; omega
      | cons y v => cases v with
        | nil => simp only [List.length_cons, List.length_nil] at hge; omega
        | cons z t => exact ⟨x, y, z, t, rfl⟩
  have hpm := List.mem_of_getElem? hp
  have hpe : H p = some (.lst (.int (x : Int) :: .int (y : Int) :: .int (z : Int) :: (natI t).map V.int)) := hpe
  have pr : p ≠ r := fun w => rps (by rw [← w]; exact hpm)
  have tn : ∀ a xs, H a = some (.tup xs) → a ∉ ps := fun a xs e m => by
    obtain ⟨ys, e2⟩ := hc.at m
    rw [e] at e2
    cases e2
  have sn : ∀ a C dx fs, H a = some (.ins C dx fs) → a ∉ ps := fun a C dx fs e m => by
    obtain ⟨ys, e2⟩ := hc.at m
    rw [e] at e2
    cases e2
  have u1 := @upd_same H p (.lst (.int (y : Int) :: .int (z : Int) :: (natI t).map V.int))
  refine w_pop0 hpe ?_
  walk_at "ws"
  refine w_pop0 u1 ?_
  rw [upd_upd]
  have u2 := @upd_same H p (.lst (.int (z : Int) :: (natI t).map V.int))
  walk_at "ws"
  refine w_pop0 u2 ?_
  rw [upd_upd]
  have f0 : Fr ps H (upd H p (.lst ((natI t).map V.int))) := Fr.put hpm
  have ha0 : HeapAt K (upd H p (.lst ((natI t).map V.int))) s c ps (cols.set k t) := ha.put hp
  have shn : sh ∉ ps := by
    obtain ⟨C, d, e, _⟩ := hsh
    exact sn _ _ _ _ e
  have hsh0 := hsh.fr f0 shn
  have hM0 := hM.fr f0 rps (fun a x m e => tn _ _ e m)
  generalize upd H p (.lst ((natI t).map V.int)) = G0 at *
  have rs' : s ≠ r := fun w => by
    obtain ⟨_, e, _⟩ := hM
    rw [← w, hs] at e
    cases e
  have keep : ∀ {G G' : Hp} {cs : List (List Nat)}, HeapAt K G s c ps cs → Fr [r] G G' → HeapAt K G' s c ps cs := fun h f => h.fr f (by simpa using rs') (by simpa using rc.symm) (fun q m w => rps (by rw [← List.mem_singleton.mp w]; exact m))
  have ne0 : ∀ {G : Hp}, HeapAt K G s c ps (cols.set k t) → ∃ dx, G s = some (.ins T.c_Heap dx [("many", .int ((cols.set k t).length : Int)), ("columns", .ref c)]) := fun h => by
    obtain ⟨⟨C, dx, e, e2⟩, _⟩ := h
    obtain rfl := e2.one T.nc_Heap
    exact ⟨dx, e⟩
  obtain ⟨C, dx0, es0, e0⟩ := id hsh0
  obtain rfl := e0.one T.nc_Sheet
  walk_at "ws"
  rename_i p1 H1 n1 s1 e1
  refine use_add (x := .bin .xor x y) (hsh0.same s1) (hM0.same s1) e1 (by omega) fun H2 hs2 hM2 f2 => ?_
  have ha2 := keep (ha0.same s1) f2
  have g2 : Fr (r :: ps) H H2 := ((f0.mono fun m w => List.mem_cons_of_mem _ w).trans (Fr.of s1)).trans (f2.mono fun m w => by rw [List.mem_singleton.mp w]; exact List.mem_cons_self ..)
  obtain ⟨C, dx2, es2, e20⟩ := id hs2
  obtain rfl := e20.one T.nc_Sheet
  walk_at "ws"
  rename_i p3 H3 n3 s3 e3
  refine use_add (x := .bin .xor rs.length z) (hs2.same s3) (hM2.same s3) e3 (by simp only [List.length_append, List.length_cons, List.length_nil]; omega) fun H4 hs4 hM4 f4 => ?_
  have ha4 := keep (ha2.same s3) f4
  have g4 : Fr (r :: ps) H H4 := (g2.trans (Fr.of s3)).trans (f4.mono fun m w => by rw [List.mem_singleton.mp w]; exact List.mem_cons_self ..)
  obtain ⟨C, dx4, es4, e40⟩ := id hs4
  obtain rfl := e40.one T.nc_Sheet
  walk_at "ws"
  rename_i p5 H5 n5 s5 e5
  refine use_add (x := .bin .and x y) (hs4.same s5) (hM4.same s5) e5 (by simp only [List.length_append, List.length_cons, List.length_nil]; omega) fun H6 hs6 hM6 f6 => ?_
  have ha6 := keep (ha4.same s5) f6
  have g6 : Fr (r :: ps) H H6 := (g4.trans (Fr.of s5)).trans (f6.mono fun m w => by rw [List.mem_singleton.mp w]; exact List.mem_cons_self ..)
  obtain ⟨C, dx6, es6, e60⟩ := id hs6
  obtain rfl := e60.one T.nc_Sheet
  walk_at "ws"
  rename_i p7 H7 n7 s7 e7
  refine use_add (x := .bin .and rs.length z) (hs6.same s7) (hM6.same s7) e7 (by simp only [List.length_append, List.length_cons, List.length_nil]; omega) fun H8 hs8 hM8 f8 => ?_
  have ha8 := keep (ha6.same s7) f8
  have g8 : Fr (r :: ps) H H8 := (g6.trans (Fr.of s7)).trans (f8.mono fun m w => by rw [List.mem_singleton.mp w]; exact List.mem_cons_self ..)
  obtain ⟨C, dx8, es8, e80⟩ := id hs8
  obtain rfl := e80.one T.nc_Sheet
  walk_at "ws"
  rename_i p9 H9 n9 s9 e9
  have e9 : H9 p9 = some (.tup (rowV (.bin .or (rs.length + 2) (rs.length + 3)))) := by
    rw [e9]
    simp only [List.length_append, List.length_cons, List.length_nil]
    rfl
  refine use_add (x := .bin .or (rs.length + 2) (rs.length + 3)) (hs8.same s9) (hM8.same s9) e9 (by simp only [List.length_append, List.length_cons, List.length_nil]; omega) fun H10 hs10 hM10 f10 => ?_
  have ha10 := keep (ha8.same s9) f10
  have g10 : Fr (r :: ps) H H10 := (g8.trans (Fr.of s9)).trans (f10.mono fun m w => by rw [List.mem_singleton.mp w]; exact List.mem_cons_self ..)
  simp only [List.append_assoc, List.cons_append, List.nil_append] at hM10
  have hl1 : (rs ++ [Row.bin .xor x y]).length = rs.length + 1 := by rw [List.length_append]; rfl
  have hl4 : (rs ++ [Row.bin .xor x y] ++ [Row.bin .xor rs.length z] ++ [Row.bin .and x y] ++ [Row.bin .and rs.length z]).length = rs.length + 4 := by simp only [List.length_append, List.length_cons, List.length_nil]
  rw [hl1, hl4]
  obtain ⟨dxa, esa⟩ := ne0 ha10
  have hsz0 : ∀ xs ∈ cols.set k t, xs.length ≤ 600000 := fun w m => by
    rcases List.mem_or_eq_of_mem_set m with m | m
    · exact hsz w m
    · have := hsz _ (List.mem_of_getElem? hk)
      rw [m]
      simp only [List.length_cons] at this
      omega
  walk_at "ws"
  refine ⟨s, c, ps, cols.set k t, k, rs.length + 1, rfl, ha10, fun w m => by have := hsz0 w m; omega, fun H11 ha11 f11 => ?_⟩
  obtain ⟨⟨C, dxb, esb, eb⟩, _⟩ := id ha11
  obtain rfl := eb.one T.nc_Heap
  have hsz1 : ∀ xs ∈ addC (cols.set k t) k (rs.length + 1), xs.length ≤ 600001 := by
    intro w m
    unfold addC at m
    cases e : (cols.set k t)[k]? with
    | some ys =>
      rw [e] at m
      rcases List.mem_or_eq_of_mem_set m with m | m
      · have := hsz0 w m; omega
      · rw [m, List.length_append, List.length_singleton]
        have := hsz0 ys (List.mem_of_getElem? e)
        omega
    | none =>
      rw [e] at m
      have := hsz0 w m; omega
  walk_at "ws"
  refine ⟨s, c, ps, _, k + 1, rs.length + 4, rfl, ha11, fun w m => by have := hsz1 w m; omega, fun H12 ha12 f12 => ?_⟩
  have tn10 : ∀ a xs, H10 a = some (.tup xs) → a ∉ ps := fun a xs e m => by
    obtain ⟨ys, e2⟩ := ha10.2.at m
    rw [e] at e2
    cases e2
  have f1012 := f11.trans f12
  have hs12 := hs10.fr f1012 shn
  have hM12 := hM10.fr f1012 rps (fun a x m e => tn10 _ _ e m)
  walk_at "ws"
  rename_i pt H13 n13 s13 e13
  have g13 : Fr (r :: ps) H H13 := (g10.trans (f1012.mono fun m w => List.mem_cons_of_mem _ w)).trans (Fr.of s13)
  refine h1 x y z t pt H13 rfl ?_ (ha12.same s13) (hs12.same s13) (hM12.same s13) g13 e13
  have g12 : Fr (r :: ps) H H12 := g10.trans (f1012.mono fun m w => List.mem_cons_of_mem _ w)
  cases e : H pt with
  | none => rfl
  | some o =>
    by_cases m : pt ∈ r :: ps
    · rcases List.mem_cons.mp m with m | m
      · obtain ⟨_, e2, _⟩ := hM12
        rw [← m, n13] at e2
        cases e2
      · obtain ⟨xs, e2⟩ := ha12.2.at m
        rw [n13] at e2
        cases e2
    · rw [g12 _ _ e m] at n13
      cases n13

def sp_high_columns (K : PySem.W.Frag) : Sp := fun vs H Q _ => ∃ (s c : Addr) (ps : List Addr) (cols : List (List Nat)), vs = [.ref s] ∧ HeapAt K H s c ps cols ∧ cols.length ≤ 1000 ∧ ∀ p H', H p = none → Same H H' → NatsAt H' p (ready (lens cols)) → Q (.ref p) H'
theorem ok_high_columns (T : Top K mg) : FnOk P w K mg base CX0 2 T.a_high_columns T.d_high_columns ["heap"] (sp_high_columns K) := by
  refine T.f_high_columns.ok sc_high_columns (fun vs H Q E h => ?_) (fun cdv A outer s H vs Q E hr h => ?_)
  · obtain ⟨s, c, ps, cols, rfl, _⟩ := h
    rfl
  obtain ⟨s, c, ps, cols, rfl, h⟩ := h
  refine ⟨_, (pss_one (ps_ret (pe_lc (own := [("k", 1), ("many", 2)]) (g := gTup K 2 (gCons (gName 1) (gCons (gName 2) gNil))) (by rfl) sc_high_columns.nd (pi_enum (by rfl) T.z_enumerate (pa_cons (pe_meth0 (pv 0) T.cl_Heap T.m_Heap_heights (ok_Heap_heights T) (hr.mono (by decide)) T.b_Heap_heights .nil pass0) pa_nil)) (blkOk_by (N := ["heap", "k", "many"]) (sc := defScope s_high_columns) (by decide +kernel)) (fun _ _ _ _ _ => (pg_tup (by rfl) (pgs_cons (pg_name (i := 1) sc_high_columns.nd rfl (.inl rfl)) (pgs_cons (pg_name (i := 2) sc_high_columns.nd rfl (.inl rfl)) pgs_nil)))) (fun _ _ _ _ _ => (pts_one (pt_cmpR op_gt (pv 2) pe_int (nomark _)))) (fun _ _ _ _ _ => (pv 1))))), ?_⟩
  try dsimp only [cxOf, Cx.nox, Cx.wish]
  simp only [L2.start, List.map_cons, List.map_nil, List.length_cons, List.length_nil, Nat.reduceAdd, Nat.reduceSub, List.replicate_succ, List.replicate_zero, List.cons_append, List.nil_append]
  obtain ⟨ha, hl, h⟩ := h
  obtain ⟨⟨C, dx, hs, hC⟩, hc⟩ := id ha
  obtain rfl := hC.one T.nc_Heap
  have c1 := T.cl_Heap
  walk_at "ws"
  refine ⟨s, c, ps, cols, rfl, ha, hl, fun p1 H1 n1 s1 e1 => ?_⟩
  have e1 : H1 p1 = some (.lst ((natI (lens cols)).map V.int)) := e1
  have hll : (lens cols).length = cols.length := List.length_map ..
  have hlm : ((natI (lens cols)).map V.int).length = cols.length := by rw [List.length_map, natI_len, hll]
  walk_at "ws"
  refine lc_ef ((natI (lens cols)).map V.int) (fun v => match v with | .int i => decide (2 < i) | _ => false) (SqL.of e1) (by omega) (fun x y => rfl) (fun n x H' QB hx sm k => ?_) (fun n x H' Q' hx sm k => ?_) (fun p2 H2 n2 s2 e2 => ?_)
  · obtain ⟨z, hz, rfl⟩ := get_map hx
    walk_at "ws"
    exact k
  · walk_at "ws"
    exact k
  · refine h p2 H2 (s1.free n2) (s1.trans s2) ?_
    unfold NatsAt
    rw [e2, hlm, ← hll, selP_ready (lens cols) _ (fun z => decide_eq_decide.mpr (by omega)) _ (Nat.le_refl _)]
    rfl
def sp_press_by_order (K : PySem.W.Frag) : Sp := fun vs H Q _ => ∃ (sh r s c o : Addr) (ps : List Addr) (cols : List (List Nat)) (rs : List Row) (order : List Int), vs = [.ref sh, .ref s, .ref o] ∧ HeapAt K H s c ps cols ∧ SheetAt K H sh r ∧ RowsM H r rs ∧ r ∉ ps ∧ r ≠ c ∧ H o = some (.lst (order.map V.int)) ∧ o ≠ r ∧ o ∉ ps ∧ cols.length ≤ 1000 ∧ (lens cols).sum ≤ 100000 ∧ rs.length ≤ 300000 ∧ order.length ≤ 1000 ∧
  ∀ (ks : List Nat) (rs' : List Row) (cols' : List (List Nat)) p H', PChain rs cols ks rs' cols' → (ready (lens cols')).length = 0 → (ks, lens cols') = itO order (lens cols) ks.length → ks.length + (lens cols').sum ≤ (lens cols).sum → H p = none → HeapAt K H' s c ps cols' → SheetAt K H' sh r → RowsM H' r rs' → Fr (r :: ps) H H' → NatsAt H' p ks → Q (.ref p) H'
theorem ok_press_by_order (T : Top K mg) : FnOk P w K mg base CX0 3 T.a_press_by_order T.d_press_by_order ["sheet", "heap", "order"] (sp_press_by_order K) := by
  refine T.f_press_by_order.ok sc_press_by_order (fun vs H Q E h => ?_) (fun cdv A outer s H vs Q E hr h => ?_)
  · obtain ⟨sh, r, s, c, o, ps, cols, rs, order, rfl, _⟩ := h
    rfl
  obtain ⟨sh, r, s, c, o, ps, cols, rs, order, rfl, h⟩ := h
  refine ⟨_, (pss_cons (ps_set (i := 3) sc_press_by_order.nd rfl (.inl rfl) (pe_lst pa_nil))
      (pss_cons (ps_set (i := 4) sc_press_by_order.nd rfl (.inl rfl) (pe_call (ok_high_columns T) (hr.mono (by decide)) (by rfl) T.g_high_columns T.f_high_columns.kp T.b_high_columns .nil pass0 (pa_cons (pv 1) pa_nil)))
      (pss_cons (ps_while PassesOwn.never (pt_cmpR op_gt (pe_callB (c_lenK K) (by rfl) T.z_len PySem.boot_len (pa_cons (pv 4) pa_nil)) pe_int (nomark _))
      (pss_cons (ps_set (i := 5) sc_press_by_order.nd rfl (.inl rfl) pe_int)
      (Evl.pss_cut (ps_if (pt_cmpR op_gt (pe_callB (c_lenK K) (by rfl) T.z_len PySem.boot_len (pa_cons (pv 2) pa_nil)) pe_int (nomark _)) (pss_one (ps_set (i := 5) sc_press_by_order.nd rfl (.inl rfl) (pe_op op_mod (pe_ix (ix_listK K) (pv 2) (pe_op op_mod (pe_callB (c_lenK K) (by rfl) T.z_len PySem.boot_len (pa_cons (pv 3) pa_nil)) (pe_callB (c_lenK K) (by rfl) T.z_len PySem.boot_len (pa_cons (pv 2) pa_nil))) (fun _ _ => rfl)) (pe_callB (c_lenK K) (by rfl) T.z_len PySem.boot_len (pa_cons (pv 4) pa_nil))))) pss_nil)
      (pss_cons (ps_expr (pe_meth (pv 1) T.cl_Heap T.m_Heap_press (ok_Heap_press T) (hr.mono (by decide)) T.b_Heap_press .nil passL (pa_cons (pv 0) (pa_cons (pe_ix (ix_listK K) (pv 4) (pv 5) (fun _ _ => rfl)) pa_nil))))
      (pss_cons (ps_expr (pe_bm PySem.F.plainAttrs_list PySem.F.slot_list_append PySem.F.type_list_append mt_append (pv 3) (pa_cons (pe_ix (ix_listK K) (pv 4) (pv 5) (fun _ _ => rfl)) pa_nil)))
      (pss_one (ps_set (i := 4) sc_press_by_order.nd rfl (.inl rfl) (pe_call (ok_high_columns T) (hr.mono (by decide)) (by rfl) T.g_high_columns T.f_high_columns.kp T.b_high_columns .nil pass0 (pa_cons (pv 1) pa_nil)))))))))
      (pss_one (ps_ret (pv 3)))))), ?_⟩
  try dsimp only [cxOf, Cx.nox, Cx.wish]
  simp only [L2.start, List.map_cons, List.map_nil, List.length_cons, List.length_nil, Nat.reduceAdd, Nat.reduceSub, List.replicate_succ, List.replicate_zero, List.cons_append, List.nil_append]
  obtain ⟨ha, hsh, hM, rps, rc, ho, hor, hops, hcl, hsum, hrl, hol, h⟩ := h
  have hom : (order.map V.int).length = order.length := List.length_map ..
  have c4 := T.cl_Heap
  walk_at "ws"
  rename_i pl H1 n1 s1 e1
  refine ⟨s, c, ps, cols, rfl, ha.same s1, hcl, fun pr H2 n2 s2 e2 => ?_⟩
  have s12 := s1.trans s2
  walk_at "ws"
  have trkps : ∀ {G : Hp} {cs : List (List Nat)} {x : Addr}, HeapAt K G s c ps cs → G x = none → x ∉ ps := fun h n m => h.trk _ (.inr (.inr m)) n
  have trkr : ∀ {G : Hp} {rs : List Row} {x : Addr}, RowsM G r rs → G x = none → x ≠ r := fun h n m => by
    obtain ⟨_, e, _⟩ := h
    rw [← m, n] at e
    cases e
  have plr : pl ≠ r := trkr hM n1
  have plps : pl ∉ ps := trkps ha n1
  have e2 : H2 pr = some (.lst ((natI (ready (lens cols))).map V.int)) := e2
  refine ⟨fun m σ' G => ∃ (ks : List Nat) (rs1 : List Row) (cols1 : List (List Nat)) (pr : Addr) (y5 : Option V), σ' = [some (.ref sh), some (.ref s), some (.ref o), some (.ref pl), some (.ref pr), y5] ∧ PChain rs cols ks rs1 cols1 ∧ HeapAt K G s c ps cols1 ∧ SheetAt K G sh r ∧ RowsM G r rs1 ∧ G pl = some (.lst ((natI ks).map V.int)) ∧ G pr = some (.lst ((natI (ready (lens cols1))).map V.int)) ∧
      (ks, lens cols1) = itO order (lens cols) ks.length ∧ ks.length + (lens cols1).sum ≤ (lens cols).sum ∧ Fr (pl :: r :: ps) H G ∧ pr ∉ r :: ps ∧ m = (lens cols1).sum,
    ⟨_, [], rs, cols, pr, _, rfl, .nil, ha.same s12, hsh.same s12, hM.same s12, s2 _ _ e1, e2, rfl, by simp, Fr.of s12, ?_, rfl⟩, fun m σ' G q => ?_⟩
  · intro m
    rcases List.mem_cons.mp m with z | z
    · exact trkr (hM.same s1) n2 z
    · exact trkps (ha.same s1) n2 z
  obtain ⟨ks, rs1, cols1, pr, y5, rfl, chain, ha1, hsh1, hM1, epl, epr, hit, hks, fG, prn, rfl⟩ := q
  have hcl1 := chain.len
  have hll1 : (lens cols1).length = cols1.length := List.length_map ..
  have hrdl : ((natI (ready (lens cols1))).map V.int).length = (ready (lens cols1)).length := by rw [List.length_map, natI_len]
  have hksl : ((natI ks).map V.int).length = ks.length := by rw [List.length_map, natI_len]
  have hrd1 := selN_len (over2 (lens cols1)) (lens cols1).length
  have hoG : SqL K G o (order.map V.int) := SqL.of (fG _ _ ho (by
    intro z
    rcases List.mem_cons.mp z with z | z
    · rw [z, n1] at ho; cases ho
    · rcases List.mem_cons.mp z with z | z
      · exact hor z
      · exact hops z))
  walk_at "ws"
  · refine ⟨fun σ' H' => ∃ m', m' < (lens cols1).sum ∧ _, fun _ _ z => z, ?_⟩
    have hpos : 0 < (ready (lens cols1)).length := by omega
    walk_at "ws"
    refine w_cut (fun σ' G' => ∃ j : Nat, σ' = [some (.ref sh), some (.ref s), some (.ref o), some (.ref pl), some (.ref pr), some (.int (j : Int))] ∧ G' = G ∧ (ready (lens cols1))[j]? = some (pick order ks.length (ready (lens cols1)))) ?_ fun σ' G' k => ?_
    · have gd : ∀ j, j < (ready (lens cols1)).length → (ready (lens cols1))[j]? = some ((ready (lens cols1)).getD j 0) := fun j hj => by
        rw [List.getD_eq_getElem?_getD, List.getElem?_eq_getElem hj]
        rfl
      walk_at "ws"
      · have hop : 0 < order.length := by omega
        have ej : (((natI ks).map V.int).length : Int) % ((order.map V.int).length : Int) = ((ks.length % order.length : Nat) : Int) := by
          rw [hksl, hom]
          exact (Int.natCast_emod ..).symm
        have hj : ks.length % order.length < order.length := Nat.mod_lt _ hop
        rw [ej]
        refine w_ixL hoG (get_int hj) ?_
        walk_at "ws"
        have a0 := Int.emod_nonneg order[ks.length % order.length] (show ((ready (lens cols1)).length : Int) ≠ 0 by omega)
        have a1 := Int.emod_lt_of_pos order[ks.length % order.length] (show (0 : Int) < ((ready (lens cols1)).length : Int) by omega)
        refine ⟨(order[ks.length % order.length] % ((ready (lens cols1)).length : Int)).toNat, ?_, rfl, ?_⟩
        · rw [Int.toNat_of_nonneg a0, hrdl]
          rfl
        · rw [gd _ (by omega)]
          unfold pick
          rw [if_neg (by omega)]
          have e : order.getD (ks.length % order.length) 0 = order[ks.length % order.length] := by
            rw [List.getD_eq_getElem?_getD, List.getElem?_eq_getElem hj]
            rfl
          rw [e]
      · refine ⟨0, rfl, rfl, ?_⟩
        rw [gd 0 hpos]
        unfold pick
        rw [if_pos (by omega)]
    obtain ⟨j, rfl, rfl, hj⟩ := k
    have hpm := pick_mem order ks.length hpos
    generalize hk : pick order ks.length (ready (lens cols1)) = kk at *
    obtain ⟨hkl, hk3⟩ := ready_mem hpm
    obtain ⟨x, y, z, t, hxyz⟩ := three_of hkl hk3
    have hst := sum_step hkl hk3
    obtain ⟨⟨C, dx, es, hC⟩, _⟩ := id ha1
    obtain rfl := hC.one T.nc_Heap
    walk_at "ws"
    refine w_ixL (SqL.of epr) (nat_at hj) ?_
    walk_at "ws"
    refine ⟨s, c, sh, r, ps, cols1, rs1, kk, _, rfl, ha1, hsh1, hM1, rps, rc, hxyz, fun w m => by have := lens_le m; omega, by omega, fun x' y' z' t' p3 H3 exs n3 ha3 hsh3 hM3 f3 hp3 => ?_, fun hlt => ?_⟩
    · cases exs
      have epl3 := f3 _ _ epl (by simp only [List.mem_cons, not_or]; exact ⟨plr, plps⟩)
      have epr3 := f3 _ _ epr prn
      walk_at "ws"
      refine w_ixL (SqL.of epr3) (nat_at hj) ?_
      have hkz : ((natI ks).map V.int).length ≤ 100000 := by omega
      walk_at "ws"
      rw [nat_snoc]
      have pln : ∀ {G : Hp} {xs : List V}, G pl = some (.lst xs) → Fr [pl] G (upd G pl (.lst ((natI (ks ++ [kk])).map V.int))) := fun _ => Fr.put (List.mem_cons_self ..)
      have f4 := pln epl3
      have sp : s ≠ pl := fun z => by
        obtain ⟨⟨C, dx, e, _⟩, _⟩ := ha3
        rw [z, epl3] at e
        cases e
      have shp : sh ≠ pl := fun z => by
        obtain ⟨C, dx, e, _⟩ := hsh3
        rw [z, epl3] at e
        cases e
      have cp : c ≠ pl := fun z => ha.trk c (.inr (.inl rfl)) (by rw [z]; exact n1)
      have ha4 := ha3.fr f4 (by simpa using sp) (by simpa using cp) (fun p m w => plps (by rw [← List.mem_singleton.mp w]; exact m))
      have hsh4 := hsh3.fr f4 (by simpa using shp)
      have hM4 := hM3.fr f4 (by simpa using plr.symm) (fun p x m e => by
        rw [List.mem_singleton.mp m] at e
        rw [show H3 pl = _ from e] at epl3
        cases epl3)
      have e4 : (upd H3 pl (.lst ((natI (ks ++ [kk])).map V.int))) pl = _ := upd_same
      have fA : Fr (pl :: r :: ps) H (upd H3 pl (.lst ((natI (ks ++ [kk])).map V.int))) := (fG.trans (f3.mono fun m w => List.mem_cons_of_mem _ w)).trans (Fr.put (List.mem_cons_self ..))
      generalize upd H3 pl (.lst ((natI (ks ++ [kk])).map V.int)) = H4 at *
      have chain' := chain.snoc hxyz
      have hlp := lens_press (n := rs1.length) hxyz
      walk_at "ws"
      refine ⟨s, c, ps, _, rfl, ha4, by rw [pressC_len]; omega, fun pr5 H5 n5 s5 e5 => ?_⟩
      refine ⟨_, ?_, ks ++ [kk], _, _, pr5, _, rfl, chain', ha4.same s5, hsh4.same s5, hM4.same s5, s5 _ _ e4, e5, ?_, ?_, fA.trans (Fr.of s5), ?_, rfl⟩
      · rw [hlp]; omega
      · rw [List.length_append, hlp]
        show _ = stepO order (itO order (lens cols) ks.length)
        rw [← hit]
        unfold stepO
        rw [if_neg (by show ¬ (ready (lens cols1)).length = 0; omega)]
        show _ = (ks ++ [pick order ks.length (ready (lens cols1))], stepH (lens cols1) (pick order ks.length (ready (lens cols1))))
        rw [hk]
      · rw [List.length_append, List.length_singleton, hlp]; omega
      · intro m
        rcases List.mem_cons.mp m with z | z
        · exact trkr hM4 n5 z
        · exact trkps ha4 n5 z
    · simp only [List.length_cons] at hlt
      omega
  · have h0 : (ready (lens cols1)).length = 0 := by omega
    refine h ks rs1 cols1 pl G chain h0 hit hks n1 ha1 hsh1 hM1 (fun b x e m => fG b x e fun w => ?_) epl
    rcases List.mem_cons.mp w with z | z
    · rw [z, n1] at e; cases e
    · exact m z

theorem worth_press1 {N : Str → Prop} {rs R : List Row} (ok : RowsOk N R) (ws : List (Str × Int)) {cols : List (List Nat)} (dk : DotsOk rs cols) {k x y z : Nat} {t : List Nat} (hk : cols[k]? = some (x :: y :: z :: t)) (l : Later (rs ++ pressR rs.length x y z) R) {n : Nat} (hn : cols.length = n) :
    worthN (bit ws R) (pressC cols k rs.length t) n % (1 * 2 ^ n) = worthN (bit ws R) cols n % (1 * 2 ^ n) := by
  have hx := dk _ (List.mem_of_getElem? hk)
  have pb := press_bits ok (hx x (List.mem_cons_self ..)) (hx y (List.mem_cons_of_mem _ (List.mem_cons_self ..))) (hx z (List.mem_cons_of_mem _ (List.mem_cons_of_mem _ (List.mem_cons_self ..)))) l ws
  have hkl := (List.getElem?_eq_some_iff.mp hk).1
  unfold pressC
  rw [worthN_addC _ _ _ _ (by rw [addC_len, List.length_set]; exact hn), worthN_addC _ _ _ _ (by rw [List.length_set]; exact hn), worthN_set _ _ _ _ hkl, pb.1, pb.2]
  have e : cols.getD k [] = x :: y :: z :: t := by rw [List.getD_eq_getElem?_getD, hk]; rfl
  rw [e, if_pos (by omega), if_pos (by omega)]
  have e2 : colS (bit ws R) (x :: y :: z :: t) = bit ws R x + bit ws R y + bit ws R z + colS (bit ws R) t := by
    unfold colS
    simp only [List.map_cons, List.sum_cons]
    omega
  rw [e2]
  generalize bit ws R x + bit ws R y + bit ws R z = s
  generalize worthN (bit ws R) cols n = W
  generalize colS (bit ws R) t = c
  have hs : s = 2 * (s / 2) + s % 2 := by omega
  by_cases c2 : k + 1 < n
  · rw [if_pos c2]
    congr 1
    have e3 : (2 : Int) ^ (k + 1) = 2 ^ k * 2 := Int.pow_succ ..
    rw [e3]
    generalize (2 : Int) ^ k = p
    generalize s / 2 = a at *
    generalize s % 2 = b at *
    subst hs
    grind
  · rw [if_neg c2]
    have e4 : n = k + 1 := by omega
    subst e4
    have e3 : (2 : Int) ^ (k + 1) = 2 ^ k * 2 := Int.pow_succ ..
    rw [Int.one_mul, e3]
    generalize (2 : Int) ^ k = p
    generalize s / 2 = a at *
    generalize s % 2 = b at *
    subst hs
    have e5 : W + (c - (2 * a + b + c)) * p + b * p + 0 = W + (p * 2) * (-a) := by grind
    rw [e5, Int.add_mul_emod_self_left]
theorem PChain.worth {N : Str → Prop} {rs R : List Row} (okR : RowsOk N R) (ws : List (Str × Int)) {cols : List (List Nat)} {ks : List Nat} {rs1 : List Row} {cols1 : List (List Nat)} (h : PChain rs cols ks rs1 cols1) (ok : RowsOk N rs) (nl : NoLats rs) (dk : DotsOk rs cols) (l : Later rs1 R) {n : Nat} (hn : cols.length = n) :
    worthN (bit ws R) cols1 n % (1 * 2 ^ n) = worthN (bit ws R) cols n % (1 * 2 ^ n) := by
  induction h with
  | nil => rfl
  | snoc h hk ih =>
    have l0 : Later _ R := Later.trans ⟨_, rfl⟩ l
    rw [← ih l0]
    exact worth_press1 okR ws (h.ok ok nl dk).2.2 hk l (h.len.2.trans hn)
theorem PChain.sum {rs : List Row} {cols : List (List Nat)} {ks : List Nat} {rs1 : List Row} {cols1 : List (List Nat)} (h : PChain rs cols ks rs1 cols1) : (lens cols1).sum + ks.length ≤ (lens cols).sum := by
  induction h with
  | nil => exact Nat.le_refl _
  | snoc h hk ih =>
    rename_i k _ _ _ _
    rw [lens_press hk, List.length_append, List.length_singleton]
    have hl := (List.getElem?_eq_some_iff.mp hk).1
    have := sum_step (hs := lens _) (k := k) (by unfold lens; rw [List.length_map]; exact hl) (by rw [List.getD_eq_getElem?_getD, lens_get, hk]; simp)
    omega
theorem PChain.pre {rs : List Row} {cols : List (List Nat)} {ks : List Nat} {rs1 : List Row} {cols1 : List (List Nat)} (h : PChain rs cols ks rs1 cols1) : ∀ (i k : Nat), ks[i]? = some k → ∃ rsi colsi x y z t, PChain rs cols (ks.take i) rsi colsi ∧ colsi[k]? = some (x :: y :: z :: t) ∧ Later rsi rs1 := by
  induction h with
  | nil => intro i k e; cases e
  | snoc h hk ih =>
    intro i k e
    rename_i ks0 rs0 cols0 k0 x y z t
    rcases Nat.lt_trichotomy i ks0.length with q | q | q
    · rw [List.getElem?_append_left q] at e
      obtain ⟨rsi, colsi, x', y', z', t', a, b, c⟩ := ih i k e
      refine ⟨rsi, colsi, x', y', z', t', ?_, b, c.trans ⟨_, rfl⟩⟩
      rw [List.take_append_of_le_length (by omega)]
      exact a
    · subst q
      rw [List.getElem?_append_right (Nat.le_refl _), Nat.sub_self] at e
      cases e
      refine ⟨_, _, x, y, z, t, ?_, hk, ⟨_, rfl⟩⟩
      rw [List.take_left' rfl]
      exact h
    · rw [List.getElem?_eq_none (by rw [List.length_append, List.length_singleton]; omega)] at e
      cases e

/-! rounds -/
def roundKs (hs : List Nat) : Nat → List Nat
  | 0 => []
  | n + 1 => roundKs hs n ++ List.replicate (hs.getD n 0 / 3) n
def upOf (hs : List Nat) (i : Nat) : Nat := if i = 0 then 0 else hs.getD (i - 1) 0 / 3
def roundH (hs : List Nat) : List Nat := (List.range hs.length).map fun i => hs.getD i 0 % 3 + hs.getD i 0 / 3 + upOf hs i
def afterK (ks : List Nat) (hs : List Nat) : List Nat := ks.foldl stepH hs
theorem stepH_len (hs : List Nat) (k : Nat) : (stepH hs k).length = hs.length := by
  unfold stepH bump
  rw [List.length_set, List.length_set]
theorem afterK_len : ∀ (ks hs : List Nat), (afterK ks hs).length = hs.length
  | [], _ => rfl
  | k :: r, hs => (afterK_len r (stepH hs k)).trans (stepH_len hs k)
theorem stepH_get {hs : List Nat} {k : Nat} (h : k < hs.length) (i : Nat) : (stepH hs k).getD i 0 = if i = k then hs.getD k 0 - 2 else if i = k + 1 ∧ k + 1 < hs.length then hs.getD i 0 + 1 else hs.getD i 0 := by
  unfold stepH bump
  simp only [List.getD_eq_getElem?_getD, List.getElem?_set, List.length_set]
  grind
theorem rep_snoc (j k : Nat) : List.replicate (j + 1) k = List.replicate j k ++ [k] := List.replicate_succ'
theorem rep_get {hs : List Nat} {k : Nat} (h : k < hs.length) (i : Nat) : ∀ j : Nat, (afterK (List.replicate j k) hs).getD i 0 = if i = k then hs.getD k 0 - 2 * j else if i = k + 1 ∧ k + 1 < hs.length then hs.getD i 0 + j else hs.getD i 0
  | 0 => by
    show hs.getD i 0 = _
    grind
  | j + 1 => by
    have ih := rep_get h i j
    have e : afterK (List.replicate (j + 1) k) hs = stepH (afterK (List.replicate j k) hs) k := by
      unfold afterK
      rw [rep_snoc, List.foldl_append]
      rfl
    have ihk := rep_get h k j
    rw [e, stepH_get (by rw [afterK_len]; exact h), ih, ihk, afterK_len]
    grind
theorem afterK_app (a b hs : List Nat) : afterK (a ++ b) hs = afterK b (afterK a hs) := List.foldl_append ..
theorem mid_get (hs : List Nat) : ∀ n : Nat, n ≤ hs.length → ∀ i, i < hs.length → (afterK (roundKs hs n) hs).getD i 0 = if i < n then hs.getD i 0 - 2 * (hs.getD i 0 / 3) + upOf hs i else if i = n then hs.getD i 0 + upOf hs i else hs.getD i 0
  | 0, _, i, hi => by
    show hs.getD i 0 = _
    unfold upOf
    grind
  | n + 1, h, i, hi => by
    have ih := mid_get hs n (by omega)
    have ihi := ih i hi
    have ihn := ih n (by omega)
    unfold roundKs
    rw [afterK_app, rep_get (by rw [afterK_len]; omega), ihi, ihn, afterK_len]
    unfold upOf
    grind
theorem mid_three {hs : List Nat} {k j : Nat} (hk : k < hs.length) (hj : j < hs.getD k 0 / 3) : 3 ≤ (afterK (roundKs hs k ++ List.replicate j k) hs).getD k 0 := by
  rw [afterK_app, rep_get (by rw [afterK_len]; exact hk), if_pos rfl, mid_get hs k (by omega) k hk, if_neg (Nat.lt_irrefl _), if_pos rfl]
  omega
theorem round_get (hs : List Nat) : afterK (roundKs hs hs.length) hs = roundH hs := by
  apply List.ext_getElem
  · rw [afterK_len]; unfold roundH; simp
  · intro i h1 h2
    rw [afterK_len] at h1
    have := mid_get hs hs.length (Nat.le_refl _) i h1
    rw [if_pos h1] at this
    unfold roundH
    have e : (afterK (roundKs hs hs.length) hs).getD i 0 = (afterK (roundKs hs hs.length) hs)[i]'(by rw [afterK_len]; exact h1) := by
      rw [List.getD_eq_getElem?_getD, List.getElem?_eq_getElem (by rw [afterK_len]; exact h1)]
      rfl
    rw [← e, this]
    simp
    omega
def itR (hs : List Nat) : Nat → List Nat × List Nat
  | 0 => ([], hs)
  | n + 1 => ((itR hs n).1 ++ roundKs (itR hs n).2 (itR hs n).2.length, roundH (itR hs n).2)
/-- n rounds were needed so far -/
def Due (hs : List Nat) (n : Nat) : Prop := ∀ m, m < n → (ready (itR hs m).2).length ≠ 0
theorem due_one {hs : List Nat} {n m : Nat} (hn : Due hs n) (hm : Due hs m) (en : (ready (itR hs n).2).length = 0) (em : (ready (itR hs m).2).length = 0) : n = m := by
  rcases Nat.lt_trichotomy n m with q | q | q
  · exact absurd en (hm n q)
  · exact q
  · exact absurd em (hn m q)
theorem Due.next {hs : List Nat} {n : Nat} (h : Due hs n) (k : (ready (itR hs n).2).length ≠ 0) : Due hs (n + 1) := fun m hm => by
  rcases Nat.lt_succ_iff_lt_or_eq.mp hm with q | q
  · exact h m q
  · rw [q]; exact k
theorem itR_len (hs : List Nat) : ∀ n, (itR hs n).2.length = hs.length
  | 0 => rfl
  | n + 1 => by
    show (roundH (itR hs n).2).length = _
    unfold roundH
    rw [List.length_map, List.length_range, itR_len hs n]
theorem PChain.heights {rs : List Row} {cols : List (List Nat)} {ks : List Nat} {rs1 : List Row} {cols1 : List (List Nat)} (h : PChain rs cols ks rs1 cols1) : lens cols1 = afterK ks (lens cols) := by
  induction h with
  | nil => rfl
  | snoc h hk ih => rw [lens_press hk, ih, afterK_app]; rfl
theorem roundKs_pos {hs : List Nat} {k n : Nat} (hn : k < n) (h : 3 ≤ hs.getD k 0) : 0 < (roundKs hs n).length := by
  induction n with
  | zero => omega
  | succ n ih =>
    unfold roundKs
    rw [List.length_append, List.length_replicate]
    by_cases c : k = n
    · subst c; omega
    · have := ih (by omega); omega
def sp_press_by_rounds (K : PySem.W.Frag) : Sp := fun vs H Q _ => ∃ (sh r s c : Addr) (ps : List Addr) (cols : List (List Nat)) (rs : List Row), vs = [.ref sh, .ref s] ∧ HeapAt K H s c ps cols ∧ SheetAt K H sh r ∧ RowsM H r rs ∧ r ∉ ps ∧ r ≠ c ∧ cols.length ≤ 1000 ∧ (lens cols).sum ≤ 100000 ∧ rs.length ≤ 300000 ∧
  ∀ (n : Nat) (ks : List Nat) (rs' : List Row) (cols' : List (List Nat)) H', PChain rs cols ks rs' cols' → Due (lens cols) n → (ready (lens cols')).length = 0 → (ks, lens cols') = itR (lens cols) n → HeapAt K H' s c ps cols' → SheetAt K H' sh r → RowsM H' r rs' → Fr (r :: ps) H H' → Q (.int (n : Int)) H'
theorem ok_press_by_rounds (T : Top K mg) : FnOk P w K mg base CX0 3 T.a_press_by_rounds T.d_press_by_rounds ["sheet", "heap"] (sp_press_by_rounds K) := by
  refine T.f_press_by_rounds.ok sc_press_by_rounds (fun vs H Q E h => ?_) (fun cdv A outer s H vs Q E hr h => ?_)
  · obtain ⟨sh, r, s, c, ps, cols, rs, rfl, _⟩ := h
    rfl
  obtain ⟨sh, r, s, c, ps, cols, rs, rfl, h⟩ := h
  refine ⟨_, (pss_cons (ps_set (i := 2) sc_press_by_rounds.nd rfl (.inl rfl) pe_int)
      (pss_cons (ps_while PassesOwn.never (pt_cmpR op_gt (pe_callB (c_lenK K) (by rfl) T.z_len PySem.boot_len (pa_cons (pe_call (ok_high_columns T) (hr.mono (by decide)) (by rfl) T.g_high_columns T.f_high_columns.kp T.b_high_columns .nil pass0 (pa_cons (pv 1) pa_nil)) pa_nil)) pe_int (nomark _))
      (pss_cons (ps_for PassesOwn.never rfl (pi_enum (by rfl) T.z_enumerate (pa_cons (pe_meth0 (pv 1) T.cl_Heap T.m_Heap_heights (ok_Heap_heights T) (hr.mono (by decide)) T.b_Heap_heights .nil pass0) pa_nil)) (pg_tup (by rfl) (pgs_cons (pg_name (i := 3) sc_press_by_rounds.nd rfl (.inl rfl)) (pgs_cons (pg_name (i := 4) sc_press_by_rounds.nd rfl (.inl rfl)) pgs_nil)))
      (pss_one (ps_for PassesOwn.never rfl (pi_range1 (by rfl) T.z_range (pa_cons (pe_op op_fdiv (pv 4) pe_int) pa_nil)) (pg_name (i := 5) sc_press_by_rounds.nd rfl (.inl rfl))
      (pss_one (ps_expr (pe_meth (pv 1) T.cl_Heap T.m_Heap_press (ok_Heap_press T) (hr.mono (by decide)) T.b_Heap_press .nil passL (pa_cons (pv 0) (pa_cons (pv 3) pa_nil))))))))
      (pss_one (ps_aug (i := 2) sc_press_by_rounds.nd rfl (.inl rfl) pe_int ip_add))))
      (pss_one (ps_ret (pv 2))))), ?_⟩
  try dsimp only [cxOf, Cx.nox, Cx.wish]
  simp only [L2.start, List.map_cons, List.map_nil, List.length_cons, List.length_nil, Nat.reduceAdd, Nat.reduceSub, List.replicate_succ, List.replicate_zero, List.cons_append, List.nil_append]
  obtain ⟨ha, hsh, hM, rps, rc, hcl, hsum, hrl, h⟩ := h
  have c4 := T.cl_Heap
  walk_at "ws"
  refine ⟨fun m σ' G => ∃ (n : Nat) (ks : List Nat) (rs1 : List Row) (cols1 : List (List Nat)) (y3 y4 y5 : Option V), σ' = [some (.ref sh), some (.ref s), some (.int (n : Int)), y3, y4, y5] ∧ PChain rs cols ks rs1 cols1 ∧ Due (lens cols) n ∧ (ks, lens cols1) = itR (lens cols) n ∧ HeapAt K G s c ps cols1 ∧ SheetAt K G sh r ∧ RowsM G r rs1 ∧ Fr (r :: ps) H G ∧ m = (lens cols1).sum,
    ⟨_, 0, [], rs, cols, _, _, _, rfl, .nil, fun m hm => absurd hm (Nat.not_lt_zero _), rfl, ha, hsh, hM, Fr.refl, rfl⟩, fun m σ' G q => ?_⟩
  obtain ⟨n, ks, rs1, cols1, y3, y4, y5, rfl, chain, due, hit, ha1, hsh1, hM1, fG, rfl⟩ := q
  have hcl1 := chain.len
  have hsum1 := chain.sum
  have hll1 : (lens cols1).length = cols1.length := List.length_map ..
  walk_at "ws"
  refine ⟨s, c, ps, cols1, rfl, ha1, by omega, fun p1 G1 n1 s1 e1 => ?_⟩
  have e1 : G1 p1 = some (.lst ((natI (ready (lens cols1))).map V.int)) := e1
  have hrl1 : ((natI (ready (lens cols1))).map V.int).length = (ready (lens cols1)).length := by rw [List.length_map, natI_len]
  have ha2 := ha1.same s1
  have hsh2 := hsh1.same s1
  have hM2 := hM1.same s1
  have fG1 := fG.trans (Fr.of s1)
  obtain ⟨⟨C, dx, es, eC⟩, _⟩ := id ha2
  obtain rfl := eC.one T.nc_Heap
  walk_at "ws"
  · refine ⟨fun σ' H' => ∃ m', m' < (lens cols1).sum ∧ _, fun _ _ z => z, ?_⟩
    have hpos : (ready (lens cols1)).length ≠ 0 := by omega
    walk_at "ws"
    refine ⟨s, c, ps, cols1, rfl, ha2, by omega, fun p2 G2 n2 s2 e2 => ?_⟩
    have e2 : G2 p2 = some (.lst ((natI (lens cols1)).map V.int)) := e2
    have p2n : p2 ∉ r :: ps := fun z => by
      rcases List.mem_cons.mp z with z | z
      · obtain ⟨_, e, _⟩ := hM2
        rw [← z, n2] at e
        cases e
      · exact ha2.trk p2 (.inr (.inr z)) n2
    walk_at "ws"
    refine for_e ((natI (lens cols1)).map V.int) (fun i σ' G3 => ∃ (rs2 : List Row) (cols2 : List (List Nat)) (y3 y4 y5 : Option V), σ' = [some (.ref sh), some (.ref s), some (.int (n : Int)), y3, y4, y5] ∧ PChain rs1 cols1 (roundKs (lens cols1) i) rs2 cols2 ∧ HeapAt K G3 s c ps cols2 ∧ SheetAt K G3 sh r ∧ RowsM G3 r rs2 ∧ Fr (r :: ps) G2 G3)
      ⟨rs1, cols1, _, _, _, rfl, .nil, ha2.same s2, hsh2.same s2, hM2.same s2, Fr.refl⟩ (fun i σ' G3 _ q => ?_) (fun i x σ' G3 G4 hx q s34 => ?_) (fun σ' G3 q => ?_)
    · obtain ⟨rs2, cols2, y3, y4, y5, rfl, ch2, ha3, hsh3, hM3, f3⟩ := q
      exact SqL.of (f3 _ _ e2 p2n)
    · obtain ⟨rs2, cols2, y3, y4, y5, rfl, ch2, ha3, hsh3, hM3, f3⟩ := q
      obtain ⟨z, hz, rfl⟩ := get_map hx
      obtain ⟨hk, hhk, rfl⟩ := natI_get hz
      have hkl := (List.getElem?_eq_some_iff.mp hhk).1
      have hgd : (lens cols1).getD i 0 = hk := by rw [List.getD_eq_getElem?_getD, hhk]; rfl
      have ej : ((hk : Int) / 3).toNat = hk / 3 := by omega
      have hkb : hk ≤ 100000 := by have := le_sum (List.mem_of_getElem? hhk); omega
      walk_at "ws"
      rw [ej]
      refine for_r (fun j σ' G5 => ∃ (rs3 : List Row) (cols3 : List (List Nat)) (y5 : Option V), σ' = [some (.ref sh), some (.ref s), some (.int (n : Int)), some (.int (i : Int)), some (.int (hk : Int)), y5] ∧ PChain rs1 cols1 (roundKs (lens cols1) i ++ List.replicate j i) rs3 cols3 ∧ HeapAt K G5 s c ps cols3 ∧ SheetAt K G5 sh r ∧ RowsM G5 r rs3 ∧ Fr (r :: ps) G2 G5)
        ⟨rs2, cols2, _, rfl, by rw [List.replicate_zero, List.append_nil]; exact ch2, ha3.same s34, hsh3.same s34, hM3.same s34, f3.trans (Fr.of s34)⟩ (fun j σ' G5 hj q => ?_) (fun σ' G5 q => ?_)
      · obtain ⟨rs3, cols3, y5, rfl, ch3, ha5, hsh5, hM5, f5⟩ := q
        have h3 := mid_three (hs := lens cols1) (k := i) (j := j) hkl (by rw [hgd]; exact hj)
        have hh3 := ch3.heights
        rw [← hh3] at h3
        have hlen3 := ch3.len
        have hsum3 := ch3.sum
        obtain ⟨x, y, z, t, hxyz⟩ := three_of (cols := cols3) (k := i) (by unfold lens; rw [List.length_map]; omega) h3
        obtain ⟨⟨C, dx, es, eC⟩, _⟩ := id ha5
        obtain rfl := eC.one T.nc_Heap
        walk_at "ws"
        refine ⟨s, c, sh, r, ps, cols3, rs3, i, _, rfl, ha5, hsh5, hM5, rps, rc, hxyz, fun xs m => by have := lens_le m; omega, by omega, fun x' y' z' t' p3 H3 exs n3 ha6 hsh6 hM6 f6 hp6 => ?_, fun hlt => ?_⟩
        · cases exs
          refine ⟨_, _, _, rfl, ?_, ha6, hsh6, hM6, f5.trans f6⟩
          rw [rep_snoc, ← List.append_assoc]
          exact ch3.snoc hxyz
        · simp only [List.length_cons] at hlt
          omega
      · obtain ⟨rs3, cols3, y5, rfl, ch3, ha5, hsh5, hM5, f5⟩ := q
        refine ⟨rs3, cols3, _, _, _, rfl, ?_, ha5, hsh5, hM5, f5⟩
        unfold roundKs
        rw [hgd]
        exact ch3
    · obtain ⟨rs2, cols2, y3, y4, y5, rfl, ch2, ha3, hsh3, hM3, f3⟩ := q
      rw [show ((natI (lens cols1)).map V.int).length = (lens cols1).length by rw [List.length_map, natI_len]] at ch2
      have hh2 := ch2.heights
      rw [round_get] at hh2
      have hsum2 := ch2.sum
      obtain ⟨hk1, hk2⟩ := Prod.mk.inj hit
      have hpos2 : 0 < (roundKs (lens cols1) (lens cols1).length).length := by
        cases e : ready (lens cols1) with
        | nil => rw [e] at hpos; exact absurd rfl hpos
        | cons k t =>
          obtain ⟨a, b⟩ := ready_mem (hs := lens cols1) (k := k) (by rw [e]; exact List.mem_cons_self ..)
          exact roundKs_pos a b
      walk_at "ws"
      refine ⟨_, ?_, n + 1, _, rs2, cols2, _, _, _, rfl, chain.trans ch2, due.next ?_, ?_, ha3, hsh3, hM3, (fG1.trans (Fr.of s2)).trans f3, rfl⟩
      · omega
      · rw [← hk2]; exact hpos
      · show _ = ((itR (lens cols) n).1 ++ roundKs (itR (lens cols) n).2 (itR (lens cols) n).2.length, roundH (itR (lens cols) n).2)
        rw [← hk2, ← hk1, hh2]
  · have h0 : (ready (lens cols1)).length = 0 := by omega
    exact h n ks rs1 cols1 G1 chain due h0 hit ha2 hsh2 hM2 fG1
theorem sum_mid {hs : List Nat} : ∀ n, n ≤ hs.length → (afterK (roundKs hs n) hs).sum + (roundKs hs n).length ≤ hs.sum
  | 0, _ => Nat.le_refl _
  | n + 1, h => by
    have ih := sum_mid n (by omega : n ≤ hs.length)
    have key : ∀ j, j ≤ hs.getD n 0 / 3 → (afterK (roundKs hs n ++ List.replicate j n) hs).sum + (roundKs hs n ++ List.replicate j n).length ≤ hs.sum := by
      intro j
      induction j with
      | zero => intro _; rw [List.replicate_zero, List.append_nil]; exact ih
      | succ j ihj =>
        intro hj
        have a := ihj (by omega)
        have b := sum_step (hs := afterK (roundKs hs n ++ List.replicate j n) hs) (k := n) (by rw [afterK_len]; omega) (mid_three (by omega) (by omega))
        rw [rep_snoc, ← List.append_assoc, afterK_app (_ ++ _), List.length_append, List.length_singleton]
        show (stepH _ n).sum + _ ≤ _
        omega
    exact key _ (Nat.le_refl _)
theorem sum_round {hs : List Nat} (h : (ready hs).length ≠ 0) : (roundH hs).sum < hs.sum := by
  have a := sum_mid (hs := hs) hs.length (Nat.le_refl _)
  rw [round_get] at a
  cases e : ready hs with
  | nil => rw [e] at h; exact absurd rfl h
  | cons k t =>
    obtain ⟨b, c⟩ := ready_mem (hs := hs) (k := k) (by rw [e]; exact List.mem_cons_self ..)
    have := roundKs_pos b c
    omega
theorem sum_itR (hs : List Nat) : ∀ n, (itR hs n).2.sum ≤ hs.sum
  | 0 => Nat.le_refl _
  | n + 1 => by
    have a := sum_mid (hs := (itR hs n).2) (itR hs n).2.length (Nat.le_refl _)
    rw [round_get] at a
    have := sum_itR hs n
    show (roundH (itR hs n).2).sum ≤ _
    omega

/-! words of the law, their sum -/
structure Wd where
  nm : Str
  b : Nat
  col : Nat
def sumW (val : Str → Int) (wl : List Wd) : Int := (wl.map fun w => val w.nm % 2 ^ w.b * 2 ^ w.col).sum
/-- what the dots put so far come to; j bits of one more word -/
def WorthOk (many : Nat) (wl : List Wd) (cols : List (List Nat)) (rs : List Row) (last : Option (Str × Nat × Nat)) : Prop := ∀ (val : Str → Int) (ws : List (Str × Int)) (R : List Row), Ext rs R → (∀ w ∈ wl, lookW ws w.nm = some (val w.nm)) → (∀ l, last = some l → lookW ws l.1 = some (val l.1)) →
  ∃ c : Int, worthN (bit ws R) cols many + c * 2 ^ many = sumW val wl + (match last with | some (nm, j, col) => val nm % 2 ^ j * 2 ^ col | none => 0)
theorem worth_start (many : Nat) (rs : List Row) : WorthOk many [] (List.replicate many []) rs none := fun val ws R _ _ _ => by
  refine ⟨0, ?_⟩
  have key : ∀ n, worthN (bit ws R) (List.replicate many []) n = 0 := by
    intro n
    induction n with
    | zero => rfl
    | succ n ih =>
      show worthN (bit ws R) (List.replicate many []) n + lin (bit ws R) n ((List.replicate many []).getD n []) = 0
      have e : (List.replicate many ([] : List Nat)).getD n [] = [] := by
        rw [List.getD_eq_getElem?_getD, List.getElem?_replicate]
        split <;> rfl
      rw [ih, e]
      rfl
  rw [key, Int.zero_mul]
  rfl
theorem worth_begin {many : Nat} {wl : List Wd} {cols : List (List Nat)} {rs : List Row} (h : WorthOk many wl cols rs none) (nm : Str) (col : Nat) : WorthOk many wl cols rs (some (nm, 0, col)) := fun val ws R e hw _ => by
  obtain ⟨c, hc⟩ := h val ws R e hw (fun l z => by cases z)
  refine ⟨c, ?_⟩
  rw [hc]
  show sumW val wl + 0 = sumW val wl + val nm % 2 ^ 0 * 2 ^ col
  rw [Int.pow_zero, Int.emod_one, Int.zero_mul]
theorem worth_put {many : Nat} {wl : List Wd} {cols : List (List Nat)} {rs : List Row} {nm : Str} {j col : Nat} (hl : cols.length = many) (h : WorthOk many wl cols rs (some (nm, j, col))) : WorthOk many wl (addC cols (col + j) rs.length) (rs ++ [.inn nm j]) (some (nm, j + 1, col)) := fun val ws R e hw hlast => by
  obtain ⟨c, hc⟩ := h val ws R ((Ext.app _ _).trans e) hw (fun l z => by cases z; exact hlast (nm, j + 1, col) rfl)
  have hrow : R[rs.length]? = some (.inn nm j) := e.get (by rw [List.getElem?_append_right (Nat.le_refl _), Nat.sub_self]; rfl)
  have hb : bit ws R rs.length = val nm / 2 ^ j % 2 := by
    rw [bit_inn hrow, hlast _ rfl]
    rfl
  have hv := mod_step (val nm) j
  have hc : worthN (bit ws R) cols many + c * 2 ^ many = sumW val wl + val nm % 2 ^ j * 2 ^ col := hc
  rw [worthN_addC _ _ _ _ hl, hb]
  show ∃ c : Int, _ = sumW val wl + val nm % 2 ^ (j + 1) * 2 ^ col
  rw [hv]
  generalize val nm / 2 ^ j % 2 = b at *
  generalize val nm % 2 ^ j = m at *
  by_cases q : col + j < many
  · refine ⟨c, ?_⟩
    rw [if_pos q, Int.pow_add]
    generalize (2 : Int) ^ col = A at *
    generalize (2 : Int) ^ j = B at *
    generalize c * 2 ^ many = D at *
    grind
  · obtain ⟨d, hd⟩ := Nat.exists_eq_add_of_le (Nat.le_of_not_lt q)
    have e2 : (2 : Int) ^ col * 2 ^ j = 2 ^ many * 2 ^ d := by rw [← Int.pow_add, ← Int.pow_add, hd]
    refine ⟨c + b * 2 ^ d, ?_⟩
    rw [if_neg q]
    generalize (2 : Int) ^ col = A at *
    generalize (2 : Int) ^ j = B at *
    generalize (2 : Int) ^ many = M at *
    generalize (2 : Int) ^ d = D at *
    grind
theorem worth_end {many : Nat} {wl : List Wd} {cols : List (List Nat)} {rs : List Row} {nm : Str} {j col : Nat} (h : WorthOk many wl cols rs (some (nm, j, col))) : WorthOk many (wl ++ [⟨nm, j, col⟩]) cols rs none := fun val ws R e hw _ => by
  obtain ⟨c, hc⟩ := h val ws R e (fun w m => hw w (List.mem_append_left _ m)) (fun l z => by cases z; exact hw ⟨nm, j, col⟩ (List.mem_append_right _ (List.mem_cons_self ..)))
  refine ⟨c, ?_⟩
  rw [hc]
  unfold sumW
  rw [List.map_append, List.sum_append]
  simp
def totalW (val : Str → Int) (wl : List Wd) : Int := (wl.map fun w => val w.nm * (1 * 2 ^ w.col)).sum
theorem total_eq {val : Str → Int} : ∀ {wl : List Wd}, (∀ w ∈ wl, 0 ≤ val w.nm ∧ val w.nm < 2 ^ w.b) → sumW val wl = totalW val wl
  | [], _ => rfl
  | w :: r, h => by
    have ih := total_eq (wl := r) fun x m => h x (List.mem_cons_of_mem _ m)
    have h0 := h w (List.mem_cons_self ..)
    unfold sumW totalW at *
    rw [List.map_cons, List.map_cons, List.sum_cons, List.sum_cons, ih, Int.emod_eq_of_lt h0.1 h0.2, Int.one_mul]
theorem bits_same {a b c : Int} {n : Nat} (h : a + c * 2 ^ n = b) : bitsI a n = bitsI b n := by
  rw [← h, bitsI_shift]
theorem bits_mods {a b : Int} {n : Nat} (h : a % (1 * 2 ^ n) = b % (1 * 2 ^ n)) : bitsI a n = bitsI b n := by
  rw [Int.one_mul] at h
  rw [← bitsI_mod a, ← bitsI_mod b, h]

def sp_span_of_width (K : PySem.W.Frag) : Sp := fun vs H Q _ => ∃ w : Int, vs = [.int w] ∧ (w ≠ 0 ∧ -100 ≤ w ∧ w ≤ 100) ∧
  ∀ p H', H p = none → Same H H' → H' p = some (.tup [.int (spanW w).1, .int (spanW w).2]) → Q (.ref p) H'
theorem ok_span_of_width (T : Top K mg) : FnOk P w K mg base CX0 1 T.a_span_of_width T.d_span_of_width ["width"] (sp_span_of_width K) := by
  refine T.f_span_of_width.ok sc_span_of_width (fun vs H Q E h => ?_) (fun cdv A outer s H vs Q E hr h => ?_)
  · obtain ⟨z, rfl, _⟩ := h
    rfl
  obtain ⟨z, rfl, h⟩ := h
  refine ⟨_, (pss_cons (ps_if (pt_cmpR op_gt (pv 0) pe_int (nomark _)) (pss_one (ps_ret (pe_tup (pa_cons pe_int (pa_cons (pe_op op_sub (pe_op op_shl pe_int (pv 0)) pe_int) pa_nil))))) pss_nil)
      (pss_cons (ps_set (i := 1) sc_span_of_width.nd rfl (.inl rfl) (pe_op op_shl pe_int (pe_op op_sub (pe_un un_neg (pv 0)) pe_int)))
      (pss_one (ps_ret (pe_tup (pa_cons (pe_un un_neg (pv 1)) (pa_cons (pe_op op_sub (pv 1) pe_int) pa_nil))))))), ?_⟩
  try dsimp only [cxOf, Cx.nox, Cx.wish]
  simp only [L2.start, List.map_cons, List.map_nil, List.length_cons, List.length_nil, Nat.reduceAdd, Nat.reduceSub, List.replicate_succ, List.replicate_zero, List.cons_append, List.nil_append]
  obtain ⟨⟨h0, h1, h2⟩, h⟩ := h
  walk_at "ws"
  · rename_i hz p H1 hn hs hp
    refine h p H1 hn hs ?_
    rw [hp, spanW, if_pos hz, Int.one_mul]
  · rename_i hz p H1 hn hs hp
    refine h p H1 hn hs ?_
    rw [hp, spanW, if_neg hz, Int.one_mul]
def sp_span_of (K : PySem.W.Frag) (n : Nat) : Sp := fun vs H Q _ => ∃ (p d : Addr) (f : Fm) (ws : List (Str × Int)) (N : Str → Prop), vs = [.ref p, .ref d] ∧ FmAt H p f ∧ H d = some (.dK (wkv ws)) ∧ FmOk N f ∧ Has N ws ∧ WdOk ws ∧ f.size ≤ n ∧ f.size ≤ 1000 ∧
  ∀ q H', H q = none → Same H H' → H' q = some (.tup [.int (spanF ws f).1, .int (spanF ws f).2]) → Q (.ref q) H'
theorem no_span_of {vs : List V} {H : Hp} {Q : VK} {E : XK} (h : sp_span_of K 0 vs H Q E) : False := by
  obtain ⟨p, d, f, ws, N, _, _, _, _, _, _, h0, _⟩ := h
  have := f.size_pos
  omega
theorem rec_span_of (T : Top K mg) (n : Nat) (ih : FnOk P w K mg base CX0 (2 + n) T.a_span_of T.d_span_of ["formula", "widths"] (sp_span_of K n)) : FnOk P w K mg base CX0 (2 + n + 1) T.a_span_of T.d_span_of ["formula", "widths"] (sp_span_of K (n + 1)) := by
  refine T.f_span_of.ok sc_span_of (fun vs H Q E h => ?_) (fun cdv A outer s H vs Q E hr h => ?_)
  · obtain ⟨p, d, f, ws, N, rfl, _⟩ := h
    rfl
  obtain ⟨p, d, f, ws, N, rfl, h⟩ := h
  refine ⟨_, (pss_cons (ps_set (i := 2) sc_span_of.nd rfl (.inl rfl) (pe_ix (ix_tupK K) (pv 0) pe_int (fun _ _ => rfl)))
      (pss_cons (ps_if (pt_cmpR op_eq (pv 2) pe_str (nomark _)) (pss_one (ps_ret (pe_call (ok_span_of_width T) (hr.mono (by omega)) (by rfl) T.g_span_of_width T.f_span_of_width.kp T.b_span_of_width .nil pass0 (pa_cons (pe_dget (hu_of hr) (pv 1) (pe_ix (ix_tupK K) (pv 0) pe_int (fun _ _ => rfl)) (fun _ _ => rfl)) pa_nil)))) pss_nil)
      (pss_cons (ps_if (pt_cmpR op_eq (pv 2) pe_str (nomark _)) (pss_one (ps_ret (pe_tup (pa_cons (pe_ix (ix_tupK K) (pv 0) pe_int (fun _ _ => rfl)) (pa_cons (pe_ix (ix_tupK K) (pv 0) pe_int (fun _ _ => rfl)) pa_nil))))) pss_nil)
      (pss_cons (ps_set (i := 3) sc_span_of.nd rfl (.inl rfl) (pe_call ih hr (by rfl) T.g_span_of T.f_span_of.kp T.b_span_of .nil pass0 (pa_cons (pe_ix (ix_tupK K) (pv 0) pe_int (fun _ _ => rfl)) (pa_cons (pv 1) pa_nil))))
      (pss_cons (ps_if (pt_cmpR op_eq (pv 2) pe_str (nomark _)) (pss_one (ps_ret (pe_tup (pa_cons (pe_un un_neg (pe_ix (ix_tupK K) (pv 3) pe_int (fun _ _ => rfl))) (pa_cons (pe_un un_neg (pe_ix (ix_tupK K) (pv 3) pe_int (fun _ _ => rfl))) pa_nil))))) pss_nil)
      (pss_cons (ps_set (i := 4) sc_span_of.nd rfl (.inl rfl) (pe_call ih hr (by rfl) T.g_span_of T.f_span_of.kp T.b_span_of .nil pass0 (pa_cons (pe_ix (ix_tupK K) (pv 0) pe_int (fun _ _ => rfl)) (pa_cons (pv 1) pa_nil))))
      (pss_cons (ps_if (pt_cmpR op_eq (pv 2) pe_str (nomark _)) (pss_one (ps_ret (pe_tup (pa_cons (pe_op op_add (pe_ix (ix_tupK K) (pv 3) pe_int (fun _ _ => rfl)) (pe_ix (ix_tupK K) (pv 4) pe_int (fun _ _ => rfl))) (pa_cons (pe_op op_add (pe_ix (ix_tupK K) (pv 3) pe_int (fun _ _ => rfl)) (pe_ix (ix_tupK K) (pv 4) pe_int (fun _ _ => rfl))) pa_nil))))) pss_nil)
      (pss_cons (ps_if (pt_cmpR op_eq (pv 2) pe_str (nomark _)) (pss_one (ps_ret (pe_tup (pa_cons (pe_op op_sub (pe_ix (ix_tupK K) (pv 3) pe_int (fun _ _ => rfl)) (pe_ix (ix_tupK K) (pv 4) pe_int (fun _ _ => rfl))) (pa_cons (pe_op op_sub (pe_ix (ix_tupK K) (pv 3) pe_int (fun _ _ => rfl)) (pe_ix (ix_tupK K) (pv 4) pe_int (fun _ _ => rfl))) pa_nil))))) pss_nil)
      (pss_cons (ps_set (i := 5) sc_span_of.nd rfl (.inl rfl) (pe_lst (pa_cons (pe_op op_mulI (pe_ix (ix_tupK K) (pv 3) pe_int (fun _ _ => rfl)) (pe_ix (ix_tupK K) (pv 4) pe_int (fun _ _ => rfl))) (pa_cons (pe_op op_mulI (pe_ix (ix_tupK K) (pv 3) pe_int (fun _ _ => rfl)) (pe_ix (ix_tupK K) (pv 4) pe_int (fun _ _ => rfl))) (pa_cons (pe_op op_mulI (pe_ix (ix_tupK K) (pv 3) pe_int (fun _ _ => rfl)) (pe_ix (ix_tupK K) (pv 4) pe_int (fun _ _ => rfl))) (pa_cons (pe_op op_mulI (pe_ix (ix_tupK K) (pv 3) pe_int (fun _ _ => rfl)) (pe_ix (ix_tupK K) (pv 4) pe_int (fun _ _ => rfl))) pa_nil))))))
      (pss_one (ps_ret (pe_tup (pa_cons (pe_callB (c_minK K) (by rfl) T.z_min (by decide +kernel) (pa_cons (pv 5) pa_nil)) (pa_cons (pe_callB (c_maxK K) (by rfl) T.z_max (by decide +kernel) (pa_cons (pv 5) pa_nil)) pa_nil)))))))))))))), ?_⟩
  try dsimp only [cxOf, Cx.nox, Cx.wish]
  simp only [L2.start, List.map_cons, List.map_nil, List.length_cons, List.length_nil, Nat.reduceAdd, Nat.reduceSub, List.replicate_succ, List.replicate_zero, List.cons_append, List.nil_append]
  obtain ⟨hp, hd, ok, has, wd, hn, hk, h⟩ := h
  cases f with
  | name m =>
    have hp : H p = some (.tup [.str "name", .str m]) := hp
    obtain ⟨v, hv⟩ := has m ok
    have hv2 : valV (wkv ws) (Sum.inr m) = some (.int v) := by rw [valV_wkv, hv]; rfl
    have e : spanF ws (.name m) = spanW v := by show spanW ((lookW ws m).getD 1) = _; rw [hv]; rfl
    rw [e] at h
    have := wd m v hv
    walk_at "ws"
    exact ⟨v, rfl, by omega, h⟩
  | num m =>
    have hp : H p = some (.tup [.str "number", .int m]) := hp
    walk_at "ws"
    exact h _ _ (by assumption) (by assumption) (by assumption)
  | turned f =>
    obtain ⟨a, hp, ha⟩ := hp
    have hn : f.size + 1 ≤ n + 1 := hn
    have hk : f.size + 1 ≤ 1000 := hk
    walk_at "ws"
    refine ⟨a, d, f, ws, N, rfl, ha, hd, ok, has, wd, by omega, by omega, fun q1 H1 n1 s1 e1 => ?_⟩
    have hp1 := s1 _ _ hp
    walk_at "ws"
    exact h _ _ (s1.free (by assumption)) (s1.trans (by assumption)) (by assumption)
  | plus f g =>
    obtain ⟨a, b, hp, ha, hb⟩ := hp
    have hn : f.size + g.size + 1 ≤ n + 1 := hn
    have hk : f.size + g.size + 1 ≤ 1000 := hk
    have := f.size_pos
    have := g.size_pos
    walk_at "ws"
    refine ⟨a, d, f, ws, N, rfl, ha, hd, ok.1, has, wd, by omega, by omega, fun q1 H1 n1 s1 e1 => ?_⟩
    have hp1 := s1 _ _ hp
    walk_at "ws"
    refine ⟨b, d, g, ws, N, rfl, hb.same s1, s1 _ _ hd, ok.2, has, wd, by omega, by omega, fun q2 H2 n2 s2 e2 => ?_⟩
    have e12 := s2 _ _ e1
    have hp2 := s2 _ _ hp1
    have s12 := s1.trans s2
    walk_at "ws"
    exact h _ _ (s12.free (by assumption)) (s12.trans (by assumption)) (by assumption)
  | less f g =>
    obtain ⟨a, b, hp, ha, hb⟩ := hp
    have hn : f.size + g.size + 1 ≤ n + 1 := hn
    have hk : f.size + g.size + 1 ≤ 1000 := hk
    have := f.size_pos
    have := g.size_pos
    walk_at "ws"
    refine ⟨a, d, f, ws, N, rfl, ha, hd, ok.1, has, wd, by omega, by omega, fun q1 H1 n1 s1 e1 => ?_⟩
    have hp1 := s1 _ _ hp
    walk_at "ws"
    refine ⟨b, d, g, ws, N, rfl, hb.same s1, s1 _ _ hd, ok.2, has, wd, by omega, by omega, fun q2 H2 n2 s2 e2 => ?_⟩
    have e12 := s2 _ _ e1
    have hp2 := s2 _ _ hp1
    have s12 := s1.trans s2
    walk_at "ws"
    exact h _ _ (s12.free (by assumption)) (s12.trans (by assumption)) (by assumption)
  | times f g =>
    obtain ⟨a, b, hp, ha, hb⟩ := hp
    have hn : f.size + g.size + 1 ≤ n + 1 := hn
    have hk : f.size + g.size + 1 ≤ 1000 := hk
    have := f.size_pos
    have := g.size_pos
    have m1 := span_bd wd ok.1
    have m2 := span_bd wd ok.2
    have i1 := mul_abs m1.1 m2.1 (by omega)
    have i2 := mul_abs m1.1 m2.2 (by omega)
    have i3 := mul_abs m1.2 m2.1 (by omega)
    have i4 := mul_abs m1.2 m2.2 (by omega)
    walk_at "ws"
    refine ⟨a, d, f, ws, N, rfl, ha, hd, ok.1, has, wd, by omega, by omega, fun q1 H1 n1 s1 e1 => ?_⟩
    have hp1 := s1 _ _ hp
    walk_at "ws"
    refine ⟨b, d, g, ws, N, rfl, hb.same s1, s1 _ _ hd, ok.2, has, wd, by omega, by omega, fun q2 H2 n2 s2 e2 => ?_⟩
    have e12 := s2 _ _ e1
    have hp2 := s2 _ _ hp1
    have s12 := s1.trans s2
    walk_at "ws"
    refine w_I i1 ?_
    walk_at "ws"
    refine w_I i2 ?_
    walk_at "ws"
    refine w_I i3 ?_
    walk_at "ws"
    refine w_I i4 ?_
    walk_at "ws"
    rename_i p3 H3 n3 s3 e3
    have e3 : H3 p3 = some (.lst ([(spanF ws f).1 * (spanF ws g).1, (spanF ws f).1 * (spanF ws g).2, (spanF ws f).2 * (spanF ws g).1, (spanF ws f).2 * (spanF ws g).2].map V.int)) := e3
    refine w_minL (SqL.of e3) (Nat.succ_pos _) fun m1 k1 k2 => ?_
    walk_at "ws"
    refine w_maxL (SqL.of e3) (Nat.succ_pos _) fun m2 k3 k4 => ?_
    rw [min_is k1 k2, max_is k3 k4]
    have s13 := s12.trans s3
    walk_at "ws"
    exact h _ _ (s13.free (by assumption)) (s13.trans (by assumption)) (by assumption)
theorem all_span_of (T : Top K mg) : ∀ n : Nat, FnOk P w K mg base CX0 (2 + n) T.a_span_of T.d_span_of ["formula", "widths"] (sp_span_of K n)
  | 0 => T.f_span_of.ok (k := 1) sc_span_of (fun _ _ _ _ h => (no_span_of h).elim) (fun _ _ _ _ _ _ _ _ _ h => (no_span_of h).elim)
  | n + 1 => rec_span_of T n (all_span_of T n)
theorem ok_span_of (T : Top K mg) : FnOk P w K mg base CX0 62 T.a_span_of T.d_span_of ["formula", "widths"] (sp_span_of K 60) := all_span_of T 60

def sp_room_of (K : PySem.W.Frag) : Sp := fun vs H Q _ => ∃ (a : Addr) (lo hi : Int), vs = [.ref a] ∧ SqT K H a [.int lo, .int hi] ∧
  ∀ p H', H p = none → Same H H' → H' p = some (.tup [.int (roomI lo hi).1, .bl (roomI lo hi).2]) → Q (.ref p) H'
theorem ok_room_of (T : Top K mg) : FnOk P w K mg base CX0 1 T.a_room_of T.d_room_of ["span"] (sp_room_of K) := by
  refine T.f_room_of.ok sc_room_of (fun vs H Q E h => ?_) (fun cdv A outer s H vs Q E hr h => ?_)
  · obtain ⟨a, lo, hi, rfl, _⟩ := h
    rfl
  obtain ⟨a, lo, hi, rfl, h⟩ := h
  refine ⟨_, (pss_cons (ps_asg (pv 0) (pg_tup (by rfl) (pgs_cons (pg_name (i := 1) sc_room_of.nd rfl (.inl rfl)) (pgs_cons (pg_name (i := 2) sc_room_of.nd rfl (.inl rfl)) pgs_nil))))
      (pss_cons (ps_if (pt_cmpR op_ge (pv 1) pe_int (nomark _)) (pss_one (ps_ret (pe_tup (pa_cons (pe_callB (c_max2 rfl) (by rfl) T.z_max (by decide +kernel) (pa_cons pe_int (pa_cons (pe_bits (pv 2)) pa_nil))) (pa_cons pe_bl pa_nil))))) pss_nil)
      (pss_one (ps_ret (pe_tup (pa_cons (pe_op op_add pe_int (pe_callB (c_max2 rfl) (by rfl) T.z_max (by decide +kernel) (pa_cons (pe_bits (pe_op op_sub (pe_un un_neg (pv 1)) pe_int)) (pa_cons (pe_bits (pe_callB (c_max2 rfl) (by rfl) T.z_max (by decide +kernel) (pa_cons pe_int (pa_cons (pv 2) pa_nil)))) pa_nil)))) (pa_cons pe_bl pa_nil))))))), ?_⟩
  try dsimp only [cxOf, Cx.nox, Cx.wish]
  simp only [L2.start, List.map_cons, List.map_nil, List.length_cons, List.length_nil, Nat.reduceAdd, Nat.reduceSub, List.replicate_succ, List.replicate_zero, List.cons_append, List.nil_append]
  obtain ⟨hS, h⟩ := h
  walk_at "ws"
  · rename_i hz p H1 n1 s1 e1
    refine h p H1 n1 s1 ?_
    rw [e1, roomI, if_pos hz]
  · rename_i hz p H1 n1 s1 e1
    refine h p H1 n1 s1 ?_
    rw [e1, roomI, if_neg hz]

/-! formulas made into gates: the plain law -/
structure Dot where
  k : Nat
  w : Nat
  s : Int
def dotV (f : Nat → Int) (d : Dot) : Int := d.s * f d.w * 2 ^ d.k
def dotsV (f : Nat → Int) (ds : List Dot) : Int := (ds.map (dotV f)).sum
theorem dotsV_snoc (f : Nat → Int) (ds : List Dot) (d : Dot) : dotsV f (ds ++ [d]) = dotsV f ds + dotV f d := by
  unfold dotsV
  rw [List.map_append, List.sum_append]
  simp
theorem dotsV_take {f : Nat → Int} {ds : List Dot} {i : Nat} {d : Dot} (h : ds[i]? = some d) : dotsV f (ds.take (i + 1)) = dotsV f (ds.take i) + dotV f d := by rw [take_snoc h, dotsV_snoc]
def DotOk (R : List Row) (d : Dot) : Prop := d.w < R.length ∧ (d.s = 1 ∨ d.s = -1)
theorem DotOk.ext {R R' : List Row} {d : Dot} (h : DotOk R d) (e : Ext R R') : DotOk R' d := ⟨Nat.lt_of_lt_of_le h.1 e.len, h.2⟩
def plainD (us : List Nat) : List Dot := us.mapIdx fun k w => ⟨k, w, 1⟩
def wordD (b : Bool) (us : List Nat) : List Dot := us.mapIdx fun k w => ⟨k, w, if b = true ∧ k + 1 = us.length then -1 else 1⟩
theorem plain_val (f : Nat → Int) : ∀ us : List Nat, dotsV f (plainD us) = valI (us.map f) := by
  apply list_snoc_ind (P := fun us => dotsV f (plainD us) = valI (us.map f))
  · rfl
  · intro us w ih
    unfold plainD at *
    rw [List.mapIdx_concat, dotsV_snoc, ih, List.map_append, List.map_singleton, valI_snoc, List.length_map]
    unfold dotV
    rw [Int.one_mul]
theorem word_last (b : Bool) (us : List Nat) (w : Nat) : wordD b (us ++ [w]) = plainD us ++ [⟨us.length, w, if b = true then -1 else 1⟩] := by
  unfold wordD plainD
  rw [List.mapIdx_concat]
  congr 1
  · rw [List.mapIdx_eq_mapIdx_iff]
    intro i hi
    rw [List.length_append, List.length_singleton, if_neg (by omega)]
  · rw [List.length_append, List.length_singleton]
    cases b with
    | true => rw [if_pos ⟨rfl, rfl⟩, if_pos rfl]
    | false => rw [if_neg (fun z => Bool.noConfusion z.1), if_neg (fun z => Bool.noConfusion z)]
theorem word_val (f : Nat → Int) (b : Bool) : ∀ us : List Nat, dotsV f (wordD b us) = numI (us.map f) b := by
  apply list_snoc_ind (P := fun us => dotsV f (wordD b us) = numI (us.map f) b)
  · unfold numI
    rw [if_neg (by intro z; exact z.2 rfl)]
    rfl
  · intro us w _
    rw [word_last, dotsV_snoc, plain_val]
    unfold numI dotV
    rw [List.map_append, List.map_singleton, valI_snoc, List.length_append, List.length_map, List.length_singleton]
    cases b with
    | true =>
      have hl : (us.map f ++ [f w]).getLastD 0 = f w := List.getLastD_concat ..
      rw [if_pos rfl, if_pos ⟨rfl, by simp⟩, hl, Int.pow_succ]
      dsimp only
      generalize (2 : Int) ^ us.length = P
      grind
    | false =>
      rw [if_neg (by decide), if_neg (by intro z; cases z.1)]
      dsimp only
      rw [Int.one_mul]
theorem wordD_len (b : Bool) (us : List Nat) : (wordD b us).length = us.length := by unfold wordD; rw [List.length_mapIdx]
theorem wordD_get {b : Bool} {us : List Nat} {i w : Nat} (h : us[i]? = some w) : (wordD b us)[i]? = some ⟨i, w, if b = true ∧ i + 1 = us.length then -1 else 1⟩ := by
  unfold wordD
  rw [List.getElem?_mapIdx, h]
  rfl
theorem wordD_mem {b : Bool} {us : List Nat} {d : Dot} (h : d ∈ wordD b us) : d.w ∈ us ∧ (d.s = 1 ∨ d.s = -1) ∧ d.k < us.length := by
  obtain ⟨i, hi⟩ := List.mem_iff_getElem?.mp h
  have hl := (List.getElem?_eq_some_iff.mp hi).1
  rw [wordD_len] at hl
  rw [wordD_get (List.getElem?_eq_getElem hl)] at hi
  cases hi
  refine ⟨List.getElem_mem hl, ?_, hl⟩
  show (if b = true ∧ i + 1 = us.length then (-1 : Int) else 1) = 1 ∨ (if b = true ∧ i + 1 = us.length then (-1 : Int) else 1) = -1
  split
  · exact .inr rfl
  · exact .inl rfl
/-- rows without latches, in rows within the widths -/
structure RowsW (N : Str → Prop) (wd : List (Str × Int)) (R : List Row) : Prop where
  ok : RowsOk N R
  nl : NoLats R
  ins : ∀ m k, Row.inn m k ∈ R → k < ((lookW wd m).getD 1).natAbs
theorem RowsW.snoc {N : Str → Prop} {wd : List (Str × Int)} {R : List Row} {r : Row} (h : RowsW N wd R) (k : RowOk N R.length r) (nl : noLat r) (hi : ∀ m j, r = .inn m j → j < ((lookW wd m).getD 1).natAbs) : RowsW N wd (R ++ [r]) :=
  ⟨h.ok.snoc k, h.nl.snoc nl, fun m j hm => by
    rcases List.mem_append.mp hm with z | z
    · exact h.ins m j z
    · exact hi m j (List.mem_singleton.mp z).symm⟩
theorem RowsW.nil (N : Str → Prop) (wd : List (Str × Int)) : RowsW N wd [] := ⟨(fun i r h => by cases h), (fun r h => by cases h), (fun m k h => by cases h)⟩
theorem ext_last {R R' : List Row} {r : Row} (e : Ext (R ++ [r]) R') : Ext R R' ∧ R'[R.length]? = some r :=
  ⟨(Ext.app _ _).trans e, e.get (by rw [List.getElem?_append_right (Nat.le_refl _), Nat.sub_self]; rfl)⟩
/-- dots of a side: just its worth -/
structure WordRes (wd : List (Str × Int)) (R : List Row) (ds : List Dot) (B : Nat) (v : List (Str × Int) → Int) : Prop where
  ok : ∀ d ∈ ds, DotOk R d
  len : ds.length ≤ B
  col : ∀ d ∈ ds, d.k < B
  val : ∀ ws R', Within wd ws → Ext R R' → dotsV (bit ws R') ds = v ws
/-- dots of a part: its worth by the rest -/
structure PartRes (wd : List (Str × Int)) (R : List Row) (ds : List Dot) (many : Nat) (v : List (Str × Int) → Int) : Prop where
  ok : ∀ d ∈ ds, DotOk R d
  col : ∀ d ∈ ds, d.k < 100
  val : ∀ ws R', Within wd ws → Ext R R' → ∃ c : Int, dotsV (bit ws R') ds + c * 2 ^ many = v ws
theorem WordRes.part {wd : List (Str × Int)} {R : List Row} {ds : List Dot} {B many : Nat} {v : List (Str × Int) → Int} (h : WordRes wd R ds B v) (hB : B ≤ 100) : PartRes wd R ds many v :=
  ⟨h.ok, fun d m => Nat.lt_of_lt_of_le (h.col d m) hB, fun ws R' hw e => ⟨0, by rw [h.val ws R' hw e, Int.zero_mul, Int.add_zero]⟩⟩
theorem WordRes.ext {wd : List (Str × Int)} {R R1 : List Row} {ds : List Dot} {B : Nat} {v : List (Str × Int) → Int} (h : WordRes wd R ds B v) (e : Ext R R1) : WordRes wd R1 ds B v :=
  ⟨fun d m => (h.ok d m).ext e, h.len, h.col, fun ws R' hw e' => h.val ws R' hw (e.trans e')⟩
/-! a name's dots -/
def nameR (n : Str) (m : Nat) : List Row := (List.range m).map fun k => Row.inn n k
def fromN (a m : Nat) : List Nat := (List.range m).map fun k => a + k
theorem nameR_succ (n : Str) (m : Nat) : nameR n (m + 1) = nameR n m ++ [.inn n m] := by unfold nameR; rw [List.range_succ, List.map_append]; rfl
theorem nameR_len (n : Str) (m : Nat) : (nameR n m).length = m := by unfold nameR; rw [List.length_map, List.length_range]
theorem fromN_get {a m i : Nat} (h : i < m) : (fromN a m)[i]? = some (a + i) := by unfold fromN; rw [List.getElem?_map, List.getElem?_range h]; rfl
theorem fromN_len (a m : Nat) : (fromN a m).length = m := by unfold fromN; rw [List.length_map, List.length_range]
theorem name_rows {N : Str → Prop} {wd : List (Str × Int)} {R : List Row} {n : Str} {w : Int} (h : RowsW N wd R) (hn : N n) (hw : lookW wd n = some w) (h24 : w.natAbs ≤ 24) : ∀ m, m ≤ w.natAbs → RowsW N wd (R ++ nameR n m)
  | 0, _ => by rw [show nameR n 0 = [] from rfl, List.append_nil]; exact h
  | m + 1, hm => by
    rw [nameR_succ, ← List.append_assoc]
    refine (name_rows h hn hw h24 m (by omega)).snoc ⟨hn, by omega⟩ trivial fun a j e => ?_
    cases e
    rw [hw]
    show m < w.natAbs
    omega
theorem name_res {wd : List (Str × Int)} {R : List Row} {n : Str} {w : Int} (hw : lookW wd n = some w) (h0 : w ≠ 0) : WordRes wd (R ++ nameR n w.natAbs) (wordD (decide (w < 0)) (fromN R.length w.natAbs)) w.natAbs (fun ws => (lookW ws n).getD 0) := by
  refine ⟨fun d m => ?_, by rw [wordD_len, fromN_len]; exact Nat.le_refl _, fun d m => ?_, fun ws R' hws e => ?_⟩
  · obtain ⟨h1, h2, h3⟩ := wordD_mem m
    refine ⟨?_, h2⟩
    rw [List.length_append, nameR_len]
    unfold fromN at h1
    obtain ⟨k, hk, e⟩ := List.mem_map.mp h1
    have := List.mem_range.mp hk
    omega
  · obtain ⟨h1, h2, h3⟩ := wordD_mem m
    rw [fromN_len] at h3
    exact h3
  · rw [word_val]
    obtain ⟨v, hv, a, b⟩ := hws n w hw
    have hb : (fromN R.length w.natAbs).map (bit ws R') = bitsI v w.natAbs := by
      refine List.ext_getElem? fun i => ?_
      rw [List.getElem?_map]
      unfold bitsI
      rw [List.getElem?_map]
      by_cases c : i < w.natAbs
      · rw [fromN_get c, List.getElem?_range c]
        have hr : R'[R.length + i]? = some (.inn n i) := e.get (by
          rw [List.getElem?_append_right (by omega), show R.length + i - R.length = i by omega]
          unfold nameR
          rw [List.getElem?_map, List.getElem?_range c]
          rfl)
        show some (bit ws R' (R.length + i)) = some (v / 2 ^ i % 2)
        rw [bit_inn hr, hv]
        rfl
      · rw [List.getElem?_eq_none (by rw [fromN_len]; omega), List.getElem?_eq_none (by rw [List.length_range]; omega)]
        rfl
    rw [hb, hv]
    obtain ⟨m, bb, ok⟩ := room_ok (show (spanW w).1 ≤ (spanW w).2 by omega)
    have e2 := ok.eq
    rw [room_width h0] at e2
    have e3 : m = w.natAbs := by have := congrArg Prod.fst e2; dsimp only at this; omega
    have e4 : decide (w < 0) = bb := congrArg Prod.snd e2
    rw [e4, ← e3]
    exact ok.num a b
/-! products -/
structure ProdInv (N : Str → Prop) (wd : List (Str × Int)) (R1 R : List Row) (ds : List Dot) (many : Nat) (T : (Nat → Int) → Int) : Prop where
  ext : Ext R1 R
  rows : RowsW N wd R
  ok : ∀ d ∈ ds, DotOk R d
  col : ∀ d ∈ ds, d.k < 100
  size : R.length = R1.length + ds.length
  val : ∀ ws R', Ext R R' → ∃ c : Int, dotsV (bit ws R') ds + c * 2 ^ many = T (bit ws R')
theorem ProdInv.nil {N : Str → Prop} {wd : List (Str × Int)} {R : List Row} (h : RowsW N wd R) (many : Nat) : ProdInv N wd R R [] many fun _ => 0 :=
  ⟨Ext.refl _, h, (fun d m => by cases m), (fun d m => by cases m), rfl, fun ws R' _ => ⟨0, by rw [Int.zero_mul]; rfl⟩⟩
theorem and_mul {x y : Int} (hx : is01 x) (hy : is01 y) : bopI .and x y = x * y := by
  rcases hx with z | z <;> rcases hy with u | u <;> rw [z, u] <;> rfl
theorem ProdInv.put {N : Str → Prop} {wd : List (Str × Int)} {R1 R : List Row} {ds : List Dot} {many : Nat} {T : (Nat → Int) → Int} (I : ProdInv N wd R1 R ds many T) {d1 d2 : Dot} (h1 : DotOk R d1) (h2 : DotOk R d2) (hk : d1.k + d2.k < 100) :
    ProdInv N wd R1 (R ++ [.bin .and d1.w d2.w]) (ds ++ [⟨d1.k + d2.k, R.length, d1.s * d2.s⟩]) many fun f => T f + dotV f d1 * dotV f d2 := by
  have hrow : RowsW N wd (R ++ [.bin .and d1.w d2.w]) := I.rows.snoc ⟨h1.1, h2.1⟩ trivial fun m j e => by cases e
  have hl : (R ++ [Row.bin .and d1.w d2.w]).length = R.length + 1 := by rw [List.length_append]; rfl
  refine ⟨I.ext.trans (Ext.app _ _), hrow, fun d m => ?_, fun d m => ?_, by rw [hl, I.size, List.length_append, List.length_singleton]; omega, fun ws R' e => ?_⟩
  · rcases List.mem_append.mp m with z | z
    · exact (I.ok d z).ext (Ext.app _ _)
    · rw [List.mem_singleton.mp z]
      refine ⟨by rw [hl]; exact Nat.lt_succ_self _, ?_⟩
      show d1.s * d2.s = 1 ∨ d1.s * d2.s = -1
      rcases h1.2 with u | u <;> rcases h2.2 with v | v <;> rw [u, v] <;> decide
  · rcases List.mem_append.mp m with z | z
    · exact I.col d z
    · rw [List.mem_singleton.mp z]
      exact hk
  · obtain ⟨e0, _⟩ := ext_last e
    obtain ⟨c, hc⟩ := I.val ws R' e0
    refine ⟨c, ?_⟩
    have hb : bit ws R' R.length = bit ws R' d1.w * bit ws R' d2.w := by
      have g : (R ++ [Row.bin .and d1.w d2.w])[R.length]? = some (.bin .and d1.w d2.w) := by rw [List.getElem?_append_right (Nat.le_refl _), Nat.sub_self]; rfl
      rw [e.bit ws (by rw [hl]; exact Nat.lt_succ_self _), bit_bin hrow.ok g, and_mul (bit_01 hrow.ok ws _) (bit_01 hrow.ok ws _), e.bit ws (by have := h1.1; omega), e.bit ws (by have := h2.1; omega)]
    rw [dotsV_snoc]
    unfold dotV at *
    dsimp only
    rw [hb, Int.pow_add]
    generalize (2 : Int) ^ d1.k = A
    generalize (2 : Int) ^ d2.k = B
    generalize c * 2 ^ many = C at *
    grind
theorem ProdInv.skip {N : Str → Prop} {wd : List (Str × Int)} {R1 R : List Row} {ds : List Dot} {many : Nat} {T : (Nat → Int) → Int} (I : ProdInv N wd R1 R ds many T) {d1 d2 : Dot} (hk : many ≤ d1.k + d2.k) :
    ProdInv N wd R1 R ds many fun f => T f + dotV f d1 * dotV f d2 := by
  refine ⟨I.ext, I.rows, I.ok, I.col, I.size, fun ws R' e => ?_⟩
  obtain ⟨c, hc⟩ := I.val ws R' e
  obtain ⟨j, hj⟩ := Nat.exists_eq_add_of_le hk
  refine ⟨c + d1.s * bit ws R' d1.w * (d2.s * bit ws R' d2.w) * 2 ^ j, ?_⟩
  have e2 : (2 : Int) ^ d1.k * 2 ^ d2.k = 2 ^ many * 2 ^ j := by rw [← Int.pow_add, ← Int.pow_add, hj]
  unfold dotV
  generalize (2 : Int) ^ d1.k = A at *
  generalize (2 : Int) ^ d2.k = B at *
  generalize (2 : Int) ^ many = M at *
  generalize (2 : Int) ^ j = J at *
  grind
theorem ProdInv.congr {N : Str → Prop} {wd : List (Str × Int)} {R1 R : List Row} {ds : List Dot} {many : Nat} {T T' : (Nat → Int) → Int} (I : ProdInv N wd R1 R ds many T) (h : ∀ f, T f = T' f) : ProdInv N wd R1 R ds many T' :=
  ⟨I.ext, I.rows, I.ok, I.col, I.size, fun ws R' e => by rw [← h]; exact I.val ws R' e⟩
theorem ProdInv.res {N : Str → Prop} {wd : List (Str × Int)} {R1 R : List Row} {ds ds1 ds2 : List Dot} {many B1 B2 : Nat} {v1 v2 : List (Str × Int) → Int} (I : ProdInv N wd R1 R ds many fun f => dotsV f ds1 * dotsV f ds2) (h1 : WordRes wd R1 ds1 B1 v1) (h2 : WordRes wd R1 ds2 B2 v2) :
    PartRes wd R ds many fun ws => v1 ws * v2 ws :=
  ⟨I.ok, I.col, fun ws R' hw e => by
    obtain ⟨c, hc⟩ := I.val ws R' e
    exact ⟨c, by rw [hc, h1.val ws R' hw (I.ext.trans e), h2.val ws R' hw (I.ext.trans e)]⟩⟩
/-! the heap of a sum -/
structure HInv (N : Str → Prop) (wd : List (Str × Int)) (R0 R : List Row) (cols : List (List Nat)) (many : Nat) (beside : Int) (T : List (Str × Int) → (Nat → Int) → Int) : Prop where
  ext : Ext R0 R
  rows : RowsW N wd R
  dots : DotsOk R cols
  len : cols.length = many
  val : ∀ ws R', Within wd ws → Ext R R' → ∃ c : Int, worthN (bit ws R') cols many + beside + c * 2 ^ many = T ws (bit ws R')
theorem worth_none (f : Nat → Int) (many : Nat) : ∀ n, worthN f (List.replicate many []) n = 0
  | 0 => rfl
  | n + 1 => by
    show worthN f (List.replicate many []) n + lin f n ((List.replicate many []).getD n []) = 0
    have e : (List.replicate many ([] : List Nat)).getD n [] = [] := by
      rw [List.getD_eq_getElem?_getD, List.getElem?_replicate]
      split <;> rfl
    rw [worth_none f many n, e]
    rfl
theorem HInv.nil {N : Str → Prop} {wd : List (Str × Int)} {R : List Row} (h : RowsW N wd R) (many : Nat) : HInv N wd R R (List.replicate many []) many 0 fun _ _ => 0 :=
  ⟨Ext.refl _, h, fun xs hx w hw => (by rw [List.eq_of_mem_replicate hx] at hw; cases hw), List.length_replicate .., fun ws R' _ _ => ⟨0, by rw [worth_none, Int.zero_mul]; rfl⟩⟩
theorem HInv.congr {N : Str → Prop} {wd : List (Str × Int)} {R0 R : List Row} {cols : List (List Nat)} {many : Nat} {beside : Int} {T T' : List (Str × Int) → (Nat → Int) → Int} (I : HInv N wd R0 R cols many beside T) (h : ∀ ws f, T ws f = T' ws f) : HInv N wd R0 R cols many beside T' :=
  ⟨I.ext, I.rows, I.dots, I.len, fun ws R' hw e => by rw [← h]; exact I.val ws R' hw e⟩
theorem HInv.grow {N : Str → Prop} {wd : List (Str × Int)} {R0 R R1 : List Row} {cols : List (List Nat)} {many : Nat} {beside : Int} {T : List (Str × Int) → (Nat → Int) → Int} (I : HInv N wd R0 R cols many beside T) (e : Ext R R1) (h : RowsW N wd R1) : HInv N wd R0 R1 cols many beside T :=
  ⟨I.ext.trans e, h, fun xs hx w hw => Nat.lt_of_lt_of_le (I.dots xs hx w hw) e.len, I.len, fun ws R' hw e' => I.val ws R' hw (e.trans e')⟩
theorem dots_addC {R : List Row} {cols : List (List Nat)} {k w : Nat} (h : DotsOk R cols) (hw : w < R.length) : DotsOk R (addC cols k w) := by
  intro xs hx z hz
  rcases mem_addC hx with q | ⟨ys, hy, rfl⟩
  · exact h xs q z hz
  · rcases List.mem_append.mp hz with u | u
    · exact h ys hy z u
    · rw [List.mem_singleton.mp u]; exact hw
theorem fold_col (many k : Nat) (x : Int) : ∃ c : Int, (if k < many then x * 2 ^ k else 0) + c * 2 ^ many = x * 2 ^ k := by
  by_cases h : k < many
  · exact ⟨0, by rw [if_pos h, Int.zero_mul, Int.add_zero]⟩
  · obtain ⟨j, hj⟩ := Nat.exists_eq_add_of_le (Nat.le_of_not_lt h)
    refine ⟨x * 2 ^ j, ?_⟩
    rw [if_neg h, hj, Int.pow_add, Int.zero_add, Int.mul_assoc, Int.mul_comm (2 ^ j) (2 ^ many)]
theorem HInv.pos {N : Str → Prop} {wd : List (Str × Int)} {R0 R : List Row} {cols : List (List Nat)} {many : Nat} {beside s : Int} {T : List (Str × Int) → (Nat → Int) → Int} (I : HInv N wd R0 R cols many beside T) {d : Dot} (h : DotOk R d) (hs : s * d.s = 1) :
    HInv N wd R0 R (addC cols d.k d.w) many beside fun ws f => T ws f + s * dotV f d := by
  refine ⟨I.ext, I.rows, dots_addC I.dots h.1, by rw [addC_len]; exact I.len, fun ws R' hw e => ?_⟩
  obtain ⟨c, hc⟩ := I.val ws R' hw e
  obtain ⟨c2, hc2⟩ := fold_col many d.k (bit ws R' d.w)
  refine ⟨c + c2, ?_⟩
  rw [worthN_addC _ _ _ _ I.len]
  generalize (if d.k < many then bit ws R' d.w * 2 ^ d.k else 0) = Y at *
  have ev : s * dotV (bit ws R') d = bit ws R' d.w * 2 ^ d.k := by
    unfold dotV
    generalize bit ws R' d.w = b
    generalize (2 : Int) ^ d.k = A
    rw [show s * (d.s * b * A) = s * d.s * (b * A) by grind, hs, Int.one_mul]
  rw [ev, ← hc2]
  generalize (2 : Int) ^ many = M at *
  grind
theorem HInv.neg {N : Str → Prop} {wd : List (Str × Int)} {R0 R : List Row} {cols : List (List Nat)} {many : Nat} {beside s : Int} {T : List (Str × Int) → (Nat → Int) → Int} (I : HInv N wd R0 R cols many beside T) {d : Dot} (h : DotOk R d) (hs : s * d.s = -1) :
    HInv N wd R0 (R ++ [.inv d.w]) (addC cols d.k R.length) many (beside - 1 * 2 ^ d.k) fun ws f => T ws f + s * dotV f d := by
  have hrow : RowsW N wd (R ++ [.inv d.w]) := I.rows.snoc h.1 trivial fun m j e => by cases e
  have hl : (R ++ [Row.inv d.w]).length = R.length + 1 := by rw [List.length_append]; rfl
  have I2 := I.grow (Ext.app R [.inv d.w]) hrow
  refine ⟨I2.ext, hrow, dots_addC I2.dots (by rw [hl]; exact Nat.lt_succ_self _), by rw [addC_len]; exact I.len, fun ws R' hw e => ?_⟩
  obtain ⟨c, hc⟩ := I2.val ws R' hw e
  have hb : bit ws R' R.length = 1 - bit ws R' d.w := by
    have g : (R ++ [Row.inv d.w])[R.length]? = some (.inv d.w) := by rw [List.getElem?_append_right (Nat.le_refl _), Nat.sub_self]; rfl
    rw [e.bit ws (by rw [hl]; exact Nat.lt_succ_self _), bit_inv hrow.ok g, e.bit ws (by have := h.1; omega)]
  obtain ⟨c2, hc2⟩ := fold_col many d.k (1 - bit ws R' d.w)
  refine ⟨c + c2, ?_⟩
  rw [worthN_addC _ _ _ _ I.len, hb]
  have ev : s * dotV (bit ws R') d = -(bit ws R' d.w * 2 ^ d.k) := by
    unfold dotV
    generalize bit ws R' d.w = b
    generalize (2 : Int) ^ d.k = A
    rw [show s * (d.s * b * A) = s * d.s * (b * A) by grind, hs]
    grind
  rw [ev]
  generalize (if d.k < many then (1 - bit ws R' d.w) * 2 ^ d.k else 0) = Y at *
  generalize (2 : Int) ^ many = M at *
  generalize (2 : Int) ^ d.k = A at *
  generalize bit ws R' d.w = b at *
  grind
theorem HInv.num {N : Str → Prop} {wd : List (Str × Int)} {R0 R : List Row} {cols : List (List Nat)} {many : Nat} {beside : Int} {T : List (Str × Int) → (Nat → Int) → Int} (I : HInv N wd R0 R cols many beside T) (x : Int) :
    HInv N wd R0 R cols many (beside + x) fun ws f => T ws f + x :=
  ⟨I.ext, I.rows, I.dots, I.len, fun ws R' hw e => by
    obtain ⟨c, hc⟩ := I.val ws R' hw e
    exact ⟨c, by rw [← hc]; omega⟩⟩
theorem HInv.fin {N : Str → Prop} {wd : List (Str × Int)} {R0 R R1 : List Row} {cols : List (List Nat)} {many : Nat} {beside s : Int} {T0 : List (Str × Int) → Int} {ds : List Dot} {v : List (Str × Int) → Int} (I : HInv N wd R0 R cols many beside fun ws f => T0 ws + s * dotsV f ds) (h : PartRes wd R1 ds many v) (e1 : Ext R1 R) :
    HInv N wd R0 R cols many beside fun ws _ => T0 ws + s * v ws :=
  ⟨I.ext, I.rows, I.dots, I.len, fun ws R' hw e => by
    obtain ⟨c, hc⟩ := I.val ws R' hw e
    obtain ⟨c2, hc2⟩ := h.val ws R' hw (e1.trans e)
    refine ⟨c + s * c2, ?_⟩
    rw [← hc2]
    generalize (2 : Int) ^ many = M at *
    grind⟩
/-- the number beside, bit by bit -/
theorem HInv.bit1 {N : Str → Prop} {wd : List (Str × Int)} {R0 R : List Row} {cols : List (List Nat)} {many k : Nat} {beside : Int} {T : List (Str × Int) → (Nat → Int) → Int} (I : HInv N wd R0 R cols many (beside - beside % 2 ^ k) T) (hb : beside / 2 ^ k % 2 = 1) :
    HInv N wd R0 (R ++ [.fix 1]) (addC cols k R.length) many (beside - beside % 2 ^ (k + 1)) T := by
  have hrow : RowsW N wd (R ++ [.fix 1]) := I.rows.snoc (.inr rfl) trivial fun m j e => by cases e
  have hl : (R ++ [Row.fix 1]).length = R.length + 1 := by rw [List.length_append]; rfl
  have I2 := I.grow (Ext.app R [.fix 1]) hrow
  refine ⟨I2.ext, hrow, dots_addC I2.dots (by rw [hl]; exact Nat.lt_succ_self _), by rw [addC_len]; exact I.len, fun ws R' hw e => ?_⟩
  obtain ⟨c, hc⟩ := I2.val ws R' hw e
  have hbit : bit ws R' R.length = 1 := bit_fix (ext_last e).2
  obtain ⟨c2, hc2⟩ := fold_col many k 1
  refine ⟨c + c2, ?_⟩
  rw [worthN_addC _ _ _ _ I.len, hbit, mod_step, hb]
  generalize (if k < many then (1 : Int) * 2 ^ k else 0) = Y at *
  generalize (2 : Int) ^ many = M at *
  generalize (2 : Int) ^ k = A at *
  grind
theorem HInv.bit0 {N : Str → Prop} {wd : List (Str × Int)} {R0 R : List Row} {cols : List (List Nat)} {many k : Nat} {beside : Int} {T : List (Str × Int) → (Nat → Int) → Int} (I : HInv N wd R0 R cols many (beside - beside % 2 ^ k) T) (hb : ¬ beside / 2 ^ k % 2 = 1) :
    HInv N wd R0 R cols many (beside - beside % 2 ^ (k + 1)) T := by
  have h0 : beside / 2 ^ k % 2 = 0 := by omega
  rw [mod_step, h0, Int.zero_mul, Int.add_zero]
  exact I
theorem HInv.done {N : Str → Prop} {wd : List (Str × Int)} {R0 R : List Row} {cols : List (List Nat)} {many : Nat} {beside : Int} {T : List (Str × Int) → (Nat → Int) → Int} (I : HInv N wd R0 R cols many (beside - beside % 2 ^ many) T) : HInv N wd R0 R cols many 0 T :=
  ⟨I.ext, I.rows, I.dots, I.len, fun ws R' hw e => by
    obtain ⟨c, hc⟩ := I.val ws R' hw e
    refine ⟨c + beside / 2 ^ many, ?_⟩
    rw [← hc]
    have := Int.mul_ediv_add_emod beside (2 ^ many)
    generalize (2 : Int) ^ many = M at *
    grind⟩
/-! what is made -/
structure MadeOk (N : Str → Prop) (wd : List (Str × Int)) (R0 R : List Row) (f : Fm) (outs : List Nat) (many : Nat) : Prop where
  ext : Ext R0 R
  rows : RowsW N wd R
  len : outs.length = many
  lt : ∀ w ∈ outs, w < R.length
  val : ∀ ws R', Within wd ws → Ext R R' → outs.map (bit ws R') = bitsI (worthF ws f) many
theorem press_ins {rs : List Row} {cols : List (List Nat)} {ks : List Nat} {rs1 : List Row} {cols1 : List (List Nat)} (h : PChain rs cols ks rs1 cols1) {m : Str} {k : Nat} : Row.inn m k ∈ rs1 → Row.inn m k ∈ rs := by
  induction h with
  | nil => exact fun z => z
  | snoc h hk ih =>
    intro z
    rcases List.mem_append.mp z with z | z
    · exact ih z
    · unfold pressR at z
      simp only [List.mem_cons, List.not_mem_nil, or_false, reduceCtorEq] at z
theorem made_ok {N : Str → Prop} {wd : List (Str × Int)} {R0 rs rs2 R : List Row} {cols cols2 : List (List Nat)} {ks outs : List Nat} {many : Nat} {f : Fm} (I : HInv N wd R0 rs cols many 0 fun ws _ => worthF ws f) (chain : PChain rs cols ks rs2 cols2) (O : OutOk N rs2 cols2 R outs) : MadeOk N wd R0 R f outs many := by
  have hl2 := chain.len.2
  obtain ⟨tl, e⟩ := chain.later
  have e12 : Ext rs rs2 := ⟨tl, e⟩
  obtain ⟨o1, o2, o3, o4, o5, o6, o7⟩ := O
  have hlen : outs.length = many := by rw [o4, hl2, I.len]
  refine ⟨(I.ext.trans e12).trans o1, ⟨o2, o3, fun m k hm => I.rows.ins m k (press_ins chain (o6.2 m k hm))⟩, hlen, o5, fun ws R' hw eR => ?_⟩
  have eb : outs.map (bit ws R') = outs.map (bit ws R) := List.map_congr_left fun w hw' => eR.bit ws (o5 w hw')
  rw [eb, o7 ws]
  obtain ⟨c, hc⟩ := I.val ws rs2 hw e12
  have hwz := chain.worth (chain.ok I.rows.ok I.rows.nl I.dots).1 ws I.rows.ok I.rows.nl I.dots (Later.refl _) I.len
  rw [hl2, I.len, bits_mods hwz]
  rw [Int.add_zero] at hc
  exact bits_same hc
theorem MadeOk.word {N : Str → Prop} {wd : List (Str × Int)} {R0 R : List Row} {f : Fm} {outs : List Nat} {many : Nat} {b : Bool} (h : MadeOk N wd R0 R f outs many) (hr : RoomOk (spanF wd f).1 (spanF wd f).2 many b) (has : Has N wd) (ok : FmOk N f) : WordRes wd R (wordD b outs) many (fun ws => worthF ws f) := by
  refine ⟨fun d m => ⟨h.lt _ (wordD_mem m).1, (wordD_mem m).2.1⟩, by rw [wordD_len, h.len]; exact Nat.le_refl _, fun d m => by have := (wordD_mem m).2.2; rw [h.len] at this; exact this, fun ws R' hw e => ?_⟩
  rw [word_val, h.val ws R' hw e]
  have := worth_in has hw ok
  exact hr.num this.1 this.2
theorem MadeOk.num {N : Str → Prop} {wd : List (Str × Int)} {R0 R : List Row} {f : Fm} {outs : List Nat} {many : Nat} {b : Bool} (h : MadeOk N wd R0 R f outs many) (hr : RoomOk (spanF wd f).1 (spanF wd f).2 many b) (has : Has N wd) (ok : FmOk N f) (ws : List (Str × Int)) (hw : Within wd ws) : numI (outs.map (bit ws R)) b = worthF ws f := by
  rw [h.val ws R hw (Ext.refl _)]
  have := worth_in has hw ok
  exact hr.num this.1 this.2
/-! the parts of a sum, of a formula -/
def apartF : Fm → Int → List (Int × Fm)
  | .turned f, s => apartF f (-s)
  | .plus f g, s => apartF f s ++ apartF g s
  | .less f g, s => apartF f s ++ apartF g (-s)
  | .name n, s => [(s, .name n)]
  | .num n, s => [(s, .num n)]
  | .times f g, s => [(s, .times f g)]
def partsV (ws : List (Str × Int)) (ps : List (Int × Fm)) : Int := (ps.map fun x => x.1 * worthF ws x.2).sum
theorem partsV_app (ws : List (Str × Int)) (xs ys : List (Int × Fm)) : partsV ws (xs ++ ys) = partsV ws xs + partsV ws ys := by
  unfold partsV
  rw [List.map_append, List.sum_append]
theorem apart_val (ws : List (Str × Int)) : ∀ (f : Fm) (s : Int), partsV ws (apartF f s) = s * worthF ws f
  | .turned f, s => by
    show partsV ws (apartF f (-s)) = s * -worthF ws f
    rw [apart_val ws f (-s)]
    grind
  | .plus f g, s => by
    show partsV ws (apartF f s ++ apartF g s) = s * (worthF ws f + worthF ws g)
    rw [partsV_app, apart_val ws f s, apart_val ws g s]
    grind
  | .less f g, s => by
    show partsV ws (apartF f s ++ apartF g (-s)) = s * (worthF ws f - worthF ws g)
    rw [partsV_app, apart_val ws f s, apart_val ws g (-s)]
    grind
  | .name n, s => Int.add_zero _
  | .num n, s => Int.add_zero _
  | .times f g, s => Int.add_zero _
def partsF : Fm → List Fm
  | .name n => [.name n]
  | .num n => [.num n]
  | .turned f => .turned f :: partsF f
  | .plus f g => .plus f g :: (partsF f ++ partsF g)
  | .less f g => .less f g :: (partsF f ++ partsF g)
  | .times f g => .times f g :: (partsF f ++ partsF g)
theorem self_part (f : Fm) : f ∈ partsF f := by cases f <;> exact List.mem_cons_self ..
theorem parts_len : ∀ f : Fm, (partsF f).length = f.size
  | .name n => rfl
  | .num n => rfl
  | .turned f => by show (partsF f).length + 1 = f.size + 1; rw [parts_len f]
  | .plus f g => by show (partsF f ++ partsF g).length + 1 = f.size + g.size + 1; rw [List.length_append, parts_len f, parts_len g]
  | .less f g => by show (partsF f ++ partsF g).length + 1 = f.size + g.size + 1; rw [List.length_append, parts_len f, parts_len g]
  | .times f g => by show (partsF f ++ partsF g).length + 1 = f.size + g.size + 1; rw [List.length_append, parts_len f, parts_len g]
def roomF (wd : List (Str × Int)) (f : Fm) : Int := (roomI (spanF wd f).1 (spanF wd f).2).1
def FitB (B : Int) (wd : List (Str × Int)) (f : Fm) : Prop := ∀ p ∈ partsF f, roomF wd p ≤ B
theorem FitB.turned {B : Int} {wd : List (Str × Int)} {f : Fm} (h : FitB B wd (.turned f)) : FitB B wd f := fun p m => h p (List.mem_cons_of_mem _ m)
theorem FitB.plus {B : Int} {wd : List (Str × Int)} {f g : Fm} (h : FitB B wd (.plus f g)) : FitB B wd f ∧ FitB B wd g := ⟨fun p m => h p (List.mem_cons_of_mem _ (List.mem_append_left _ m)), fun p m => h p (List.mem_cons_of_mem _ (List.mem_append_right _ m))⟩
theorem FitB.less {B : Int} {wd : List (Str × Int)} {f g : Fm} (h : FitB B wd (.less f g)) : FitB B wd f ∧ FitB B wd g := ⟨fun p m => h p (List.mem_cons_of_mem _ (List.mem_append_left _ m)), fun p m => h p (List.mem_cons_of_mem _ (List.mem_append_right _ m))⟩
theorem FitB.times {B : Int} {wd : List (Str × Int)} {f g : Fm} (h : FitB B wd (.times f g)) : FitB B wd f ∧ FitB B wd g := ⟨fun p m => h p (List.mem_cons_of_mem _ (List.mem_append_left _ m)), fun p m => h p (List.mem_cons_of_mem _ (List.mem_append_right _ m))⟩
def costF (D S : Nat) : Fm → Nat
  | .name _ => 168
  | .num _ => 0
  | .turned f => costF D S f
  | .plus f g => costF D S f + costF D S g
  | .less f g => costF D S f + costF D S g
  | .times f g => costF D S f + costF D S g + 2 * S + 7 * D
def partsC (D S : Nat) (ps : List (Int × Fm)) : Nat := (ps.map fun x => costF D S x.2).sum
theorem partsC_app (D S : Nat) (xs ys : List (Int × Fm)) : partsC D S (xs ++ ys) = partsC D S xs + partsC D S ys := by
  unfold partsC
  rw [List.map_append, List.sum_append]
theorem apart_cost (D S : Nat) : ∀ (f : Fm) (s : Int), partsC D S (apartF f s) = costF D S f
  | .turned f, s => apart_cost D S f (-s)
  | .plus f g, s => by
    show partsC D S (apartF f s ++ apartF g s) = costF D S f + costF D S g
    rw [partsC_app, apart_cost D S f s, apart_cost D S g s]
  | .less f g, s => by
    show partsC D S (apartF f s ++ apartF g (-s)) = costF D S f + costF D S g
    rw [partsC_app, apart_cost D S f s, apart_cost D S g (-s)]
  | .name n, s => Nat.add_zero _
  | .num n, s => Nat.add_zero _
  | .times f g, s => Nat.add_zero _
/-- a part of a sum: its sign, and that it is a name, a number or a product -/
structure Piece (N : Str → Prop) (B : Int) (wd : List (Str × Int)) (f : Fm) (x : Int × Fm) : Prop where
  sg : x.1 = 1 ∨ x.1 = -1
  ok : FmOk N x.2
  fit : FitB B wd x.2
  size : x.2.size ≤ f.size
  kind : (∃ n, x.2 = .name n) ∨ (∃ n, x.2 = .num n) ∨ ∃ g h, x.2 = .times g h
theorem Piece.up {N : Str → Prop} {B : Int} {wd : List (Str × Int)} {f g : Fm} {x : Int × Fm} (h : Piece N B wd f x) (l : f.size ≤ g.size) : Piece N B wd g x := ⟨h.sg, h.ok, h.fit, Nat.le_trans h.size l, h.kind⟩
theorem apart_piece {N : Str → Prop} {B : Int} {wd : List (Str × Int)} : ∀ (f : Fm) (s : Int), (s = 1 ∨ s = -1) → FmOk N f → FitB B wd f → ∀ x ∈ apartF f s, Piece N B wd f x
  | .turned f, s, hs, ok, fit => fun x m => (apart_piece f (-s) (by omega) ok fit.turned x m).up (Nat.le_succ _)
  | .plus f g, s, hs, ok, fit => fun x m => by
    have e : (Fm.plus f g).size = f.size + g.size + 1 := rfl
    rcases List.mem_append.mp (show x ∈ apartF f s ++ apartF g s from m) with z | z
    · exact (apart_piece f s hs ok.1 fit.plus.1 x z).up (by omega)
    · exact (apart_piece g s hs ok.2 fit.plus.2 x z).up (by omega)
  | .less f g, s, hs, ok, fit => fun x m => by
    have e : (Fm.less f g).size = f.size + g.size + 1 := rfl
    rcases List.mem_append.mp (show x ∈ apartF f s ++ apartF g (-s) from m) with z | z
    · exact (apart_piece f s hs ok.1 fit.less.1 x z).up (by omega)
    · exact (apart_piece g (-s) (by omega) ok.2 fit.less.2 x z).up (by omega)
  | .name n, s, hs, ok, fit => fun x m => by rw [List.mem_singleton.mp m]; exact ⟨hs, ok, fit, Nat.le_refl _, .inl ⟨n, rfl⟩⟩
  | .num n, s, hs, ok, fit => fun x m => by rw [List.mem_singleton.mp m]; exact ⟨hs, ok, fit, Nat.le_refl _, .inr (.inl ⟨n, rfl⟩)⟩
  | .times f g, s, hs, ok, fit => fun x m => by rw [List.mem_singleton.mp m]; exact ⟨hs, ok, fit, Nat.le_refl _, .inr (.inr ⟨f, g, rfl⟩)⟩
theorem apart_len : ∀ (f : Fm) (s : Int), (apartF f s).length ≤ f.size
  | .turned f, s => Nat.le_succ_of_le (apart_len f (-s))
  | .plus f g, s => by
    have a := apart_len f s
    have b := apart_len g s
    show (apartF f s ++ apartF g s).length ≤ f.size + g.size + 1
    rw [List.length_append]
    omega
  | .less f g, s => by
    have a := apart_len f s
    have b := apart_len g (-s)
    show (apartF f s ++ apartF g (-s)).length ≤ f.size + g.size + 1
    rw [List.length_append]
    omega
  | .name n, s => Nat.le_refl _
  | .num n, s => Nat.le_refl _
  | .times f g, s => by show 1 ≤ f.size + g.size + 1; omega
theorem span_le {wd : List (Str × Int)} (hw : WdOk wd) : ∀ f : Fm, (spanF wd f).1 ≤ (spanF wd f).2
  | .name n => (spanW_bd (wd_get hw n)).1
  | .num n => Int.le_refl _
  | .plus f g => by
    have a := span_le hw f
    have b := span_le hw g
    show (spanF wd f).1 + (spanF wd g).1 ≤ (spanF wd f).2 + (spanF wd g).2
    omega
  | .less f g => by
    have a := span_le hw f
    have b := span_le hw g
    show (spanF wd f).1 - (spanF wd g).2 ≤ (spanF wd f).2 - (spanF wd g).1
    omega
  | .times f g => by
    show min4 _ _ _ _ ≤ max4 _ _ _ _
    unfold min4 max4
    omega
  | .turned f => by
    have a := span_le hw f
    show -(spanF wd f).2 ≤ -(spanF wd f).1
    omega

/-! a plan: its sheet, widths, order, splits -/
def PlanAt (K : PySem.W.Frag) (H : Hp) (pl sh d : Addr) (ov : V) (sp : Addr) : Prop := ∃ C dx, H pl = some (.ins C dx [("sheet", .ref sh), ("widths", .ref d), ("order", ov), ("splits", .ref sp)]) ∧ IsC K "Plan" C
def OrdAt (H : Hp) (r : Addr) (ov : V) : Option (List Int) → Prop
  | none => ov = .non
  | some l => ∃ o, ov = .ref o ∧ H o = some (.lst (l.map V.int)) ∧ o ≠ r
structure PlanI (K : PySem.W.Frag) (H : Hp) (pl sh r d : Addr) (ov : V) (sp : Addr) (wd : List (Str × Int)) (od : Option (List Int)) (ns : List Int) : Prop where
  fp : PlanAt K H pl sh d ov sp
  fs : SheetAt K H sh r
  fw : H d = some (.dK (wkv wd))
  fo : OrdAt H r ov od
  fsp : H sp = some (.lst (ns.map V.int))
  fne : sp ≠ r
theorem PlanI.fr {H H' : Hp} {pl sh r d sp : Addr} {ov : V} {wd : List (Str × Int)} {od : Option (List Int)} {ns : List Int} {rs : List Row} {ms : List Addr} (P : PlanI K H pl sh r d ov sp wd od ns) (hM : RowsM H r rs) (f : Fr ms H H') (hms : ∀ m ∈ ms, m = r ∨ H m = none) : PlanI K H' pl sh r d ov sp wd od ns := by
  obtain ⟨_, eM, _⟩ := hM
  have keep : ∀ {b : Addr} {o : HO}, H b = some o → b ≠ r → H' b = some o := fun {b o} e n => f b o e fun m => by
    rcases hms b m with z | z
    · exact n z
    · rw [z] at e; cases e
  obtain ⟨⟨C, dx, e1, c1⟩, ⟨C2, dx2, e2, c2⟩, e3, e4, e5, e6⟩ := P
  refine ⟨⟨C, dx, keep e1 (ne_of e1 eM (by intro z; cases z)), c1⟩, ⟨C2, dx2, keep e2 (ne_of e2 eM (by intro z; cases z)), c2⟩, keep e3 (ne_of e3 eM (by intro z; cases z)), ?_, keep e5 e6, e6⟩
  cases od with
  | none => exact e4
  | some l =>
    obtain ⟨o, h1, h2, h3⟩ := e4
    exact ⟨o, h1, keep h2 h3, h3⟩
theorem PlanI.same {H H' : Hp} {pl sh r d sp : Addr} {ov : V} {wd : List (Str × Int)} {od : Option (List Int)} {ns : List Int} {rs : List Row} (P : PlanI K H pl sh r d ov sp wd od ns) (hM : RowsM H r rs) (s : Same H H') : PlanI K H' pl sh r d ov sp wd od ns :=
  P.fr hM (Fr.of (ms := []) s) fun m h => by cases h
theorem PlanI.frp {H H' : Hp} {pl sh r d sp : Addr} {ov : V} {wd : List (Str × Int)} {od : Option (List Int)} {ns : List Int} {rs : List Row} {ps : List Addr} (P : PlanI K H pl sh r d ov sp wd od ns) (hM : RowsM H r rs) (f : Fr (r :: ps) H H') (hc : ∀ p ∈ ps, ∃ xs, H p = some (.lst xs)) (ho : ∀ o, ov = .ref o → o ∉ ps) (hs : sp ∉ ps) : PlanI K H' pl sh r d ov sp wd od ns := by
  obtain ⟨_, eM, _⟩ := hM
  have keep : ∀ {b : Addr} {o : HO}, H b = some o → b ≠ r → b ∉ ps → H' b = some o := fun {b o} e n n2 => f b o e fun m => by
    rcases List.mem_cons.mp m with z | z
    · exact n z
    · exact n2 z
  have off : ∀ {b : Addr} {o : HO}, H b = some o → (∀ xs, o ≠ .lst xs) → b ∉ ps := fun {b o} e n m => by
    obtain ⟨xs, e2⟩ := hc b m
    rw [e] at e2
    cases e2
    exact n _ rfl
  obtain ⟨⟨C, dx, e1, c1⟩, ⟨C2, dx2, e2, c2⟩, e3, e4, e5, e6⟩ := P
  refine ⟨⟨C, dx, keep e1 (ne_of e1 eM (by intro z; cases z)) (off e1 (fun _ z => by cases z)), c1⟩, ⟨C2, dx2, keep e2 (ne_of e2 eM (by intro z; cases z)) (off e2 (fun _ z => by cases z)), c2⟩, keep e3 (ne_of e3 eM (by intro z; cases z)) (off e3 (fun _ z => by cases z)), ?_, keep e5 e6 hs, e6⟩
  cases od with
  | none => exact e4
  | some l =>
    obtain ⟨o, h1, h2, h3⟩ := e4
    exact ⟨o, h1, keep h2 h3 (ho o h1), h3⟩
theorem len2' {xs : List Nat} {cols : List (List Nat)} (h : (ready (lens cols)).length = 0) (m : xs ∈ cols) : xs.length ≤ 2 := by
  rcases Nat.lt_or_ge 2 xs.length with q | q
  · have := ready_pos (hs := lens cols) (List.mem_map.mpr ⟨xs, m, rfl⟩) q
    omega
  · exact q
def sp_Circuit__init (K : PySem.W.Frag) : Sp := fun vs H Q _ => ∃ (s C dx ra oa : Addr) (b : Bool), vs = [.ref s, .ref ra, .ref oa, .bl b] ∧ H s = some (.ins C dx []) ∧ IsC K "Circuit" C ∧
  ∀ H1, H1 s = some (.ins C dx [("rows", .ref ra), ("outs", .ref oa), ("below", .bl b)]) → Fr [s] H H1 → Q .non H1
theorem ok_Circuit__init (T : Top K mg) : FnOk P w K mg base CX0 1 T.a_Circuit__init T.d_Circuit__init ["self", "rows", "outs", "below"] (sp_Circuit__init K) := by
  refine T.f_Circuit__init.ok sc_Circuit__init (fun vs H Q E h => ?_) (fun cdv A outer s H vs Q E hr h => ?_)
  · obtain ⟨s, C, dx, ra, oa, b, rfl, _⟩ := h
    rfl
  obtain ⟨s, C, dx, ra, oa, b, rfl, h⟩ := h
  refine ⟨_, (pss_cons (ps_fld (pv 0) (pv 1) rfl)
      (pss_cons (ps_fld (pv 0) (pv 2) rfl)
      (pss_one (ps_fld (pv 0) (pv 3) rfl)))), ?_⟩
  try dsimp only [cxOf, Cx.nox, Cx.wish]
  simp only [L2.start, List.map_cons, List.map_nil, List.length_cons, List.length_nil, Nat.reduceAdd, Nat.reduceSub, List.replicate_succ, List.replicate_zero, List.cons_append, List.nil_append]
  obtain ⟨hs, hC, h⟩ := h
  obtain rfl := hC.one T.nc_Circuit
  have c1 := T.cl_Circuit
  have c2 := T.n_Circuit_rows
  have c3 := T.n_Circuit_outs
  have c4 := T.n_Circuit_below
  walk_at "ws"
  exact h _ upd_same (((Fr.put (List.mem_cons_self ..)).trans (Fr.put (List.mem_cons_self ..))).trans (Fr.put (List.mem_cons_self ..)))
def sp_Plan__init (K : PySem.W.Frag) : Sp := fun vs H Q _ => ∃ (s C dx d sp : Addr) (ov : V), vs = [.ref s, .ref d, ov, .ref sp] ∧ H s = some (.ins C dx []) ∧ IsC K "Plan" C ∧
  ∀ (sh r : Addr) H1, H sh = none → H r = none → PlanAt K H1 s sh d ov sp → SheetAt K H1 sh r → RowsM H1 r [] → Fr [s] H H1 → Q .non H1
theorem ok_Plan__init (T : Top K mg) : FnOk P w K mg base CX0 3 T.a_Plan__init T.d_Plan__init ["self", "widths", "order", "splits"] (sp_Plan__init K) := by
  refine T.f_Plan__init.ok sc_Plan__init (fun vs H Q E h => ?_) (fun cdv A outer s H vs Q E hr h => ?_)
  · obtain ⟨s, C, dx, d, sp, ov, rfl, _⟩ := h
    rfl
  obtain ⟨s, C, dx, d, sp, ov, rfl, h⟩ := h
  refine ⟨_, (pss_cons (ps_fld (pv 0) (pe_make0 T.mk_Sheet (ok_Sheet__init T) (hr.mono (by decide)) (by rfl) T.gc_Sheet T.b_Sheet__init .nil pass0) rfl)
      (pss_cons (ps_fld (pv 0) (pv 1) rfl)
      (pss_cons (ps_fld (pv 0) (pv 2) rfl)
      (pss_one (ps_fld (pv 0) (pv 3) rfl))))), ?_⟩
  try dsimp only [cxOf, Cx.nox, Cx.wish]
  simp only [L2.start, List.map_cons, List.map_nil, List.length_cons, List.length_nil, Nat.reduceAdd, Nat.reduceSub, List.replicate_succ, List.replicate_zero, List.cons_append, List.nil_append]
  obtain ⟨hs, hC, h⟩ := h
  obtain rfl := hC.one T.nc_Plan
  have c1 := T.cl_Plan
  have c2 := T.n_Plan_sheet
  have c3 := T.n_Plan_widths
  have c4 := T.n_Plan_order
  have c5 := T.n_Plan_splits
  walk_at "ws"
  rename_i sh dsh H2 n1 n2 s2 e2
  refine ⟨sh, T.c_Sheet, dsh, rfl, e2, T.nc_Sheet, fun r H3 n3 s3 e3 => ⟨rfl, ?_⟩⟩
  have shr : sh ≠ r := fun z => by rw [z] at e2; rw [e2] at n3; cases n3
  have ssh : s ≠ sh := fun z => by rw [z, n1] at hs; cases hs
  have nr : H r = none := s2.free n3
  have sr : s ≠ r := fun z => by rw [z, nr] at hs; cases hs
  have hs3 : (upd H3 sh (.ins T.c_Sheet dsh [("rows", .ref r)])) s = some (.ins T.c_Plan dx []) := by rw [upd_ne ssh]; exact s3 _ _ (s2 _ _ hs)
  have hsh3 : (upd H3 sh (.ins T.c_Sheet dsh [("rows", .ref r)])) sh = some (.ins T.c_Sheet dsh [("rows", .ref r)]) := upd_same
  have hr3 : (upd H3 sh (.ins T.c_Sheet dsh [("rows", .ref r)])) r = some (.lst []) := by rw [upd_ne shr.symm]; exact e3
  have f3 : Fr [s] H (upd H3 sh (.ins T.c_Sheet dsh [("rows", .ref r)])) := fun b o e _ => by
    rw [upd_ne (fun z => by rw [z, n1] at e; cases e)]
    exact s3 _ _ (s2 _ _ e)
  generalize upd H3 sh (.ins T.c_Sheet dsh [("rows", .ref r)]) = H4 at *
  walk_at "ws"
  have f5 : Fr [s] H4 (upd (upd (upd (upd H4 s (.ins T.c_Plan dx (putF "sheet" (.ref sh) []))) s (.ins T.c_Plan dx (putF "widths" (.ref d) (putF "sheet" (.ref sh) [])))) s (.ins T.c_Plan dx (putF "order" ov (putF "widths" (.ref d) (putF "sheet" (.ref sh) []))))) s (.ins T.c_Plan dx (putF "splits" (.ref sp) (putF "order" ov (putF "widths" (.ref d) (putF "sheet" (.ref sh) [])))))) :=
    (((Fr.put (List.mem_cons_self ..)).trans (Fr.put (List.mem_cons_self ..))).trans (Fr.put (List.mem_cons_self ..))).trans (Fr.put (List.mem_cons_self ..))
  refine h sh r _ n1 nr ⟨T.c_Plan, dx, upd_same, hC⟩ ⟨T.c_Sheet, dsh, f5 _ _ hsh3 (by simpa using ssh.symm), T.nc_Sheet⟩ ⟨[], f5 _ _ hr3 (by simpa using sr.symm), A2.nil⟩ (f3.trans f5)
def sp_Plan_finished (K : PySem.W.Frag) : Sp := fun vs H Q _ => ∃ (pl sh r d sp he c : Addr) (ov : V) (wd : List (Str × Int)) (od : Option (List Int)) (ns : List Int) (ps : List Addr) (cols : List (List Nat)) (rs : List Row) (N : Str → Prop), vs = [.ref pl, .ref he] ∧ PlanI K H pl sh r d ov sp wd od ns ∧ HeapAt K H he c ps cols ∧ RowsM H r rs ∧ r ∉ ps ∧ r ≠ c ∧
  (∀ o, ov = .ref o → o ∉ ps) ∧ sp ∉ ps ∧ (∀ l, od = some l → l.length ≤ 1000) ∧ cols.length ≤ 64 ∧ (lens cols).sum ≤ 100000 ∧ rs.length ≤ 300000 ∧ RowsOk N rs ∧ NoLats rs ∧ DotsOk rs cols ∧ rs.length + 5 * (lens cols).sum ≤ 490000 ∧
  ∀ (ks : List Nat) (rs2 : List Row) (cols2 : List (List Nat)) (outs : List Nat) (R : List Row) p H', H p = none → PChain rs cols ks rs2 cols2 → OutOk N rs2 cols2 R outs → NatsAt H' p outs → RowsM H' r R → Fr (r :: ps) H H' → Q (.ref p) H'
theorem ok_Plan_finished (T : Top K mg) : FnOk P w K mg base CX0 72 T.a_Plan_finished T.d_Plan_finished ["self", "heap"] (sp_Plan_finished K) := by
  refine T.f_Plan_finished.ok sc_Plan_finished (fun vs H Q E h => ?_) (fun cdv A outer s H vs Q E hr h => ?_)
  · obtain ⟨pl, sh, r, d, sp, he, c, ov, wd, od, ns, ps, cols, rs, N, rfl, _⟩ := h
    rfl
  obtain ⟨pl, sh, r, d, sp, he, c, ov, wd, od, ns, ps, cols, rs, N, rfl, h⟩ := h
  refine ⟨_, (pss_cons (ps_if (pt_cmpR op_isNo (pe_fld (pv 0) rfl) pe_non (nomark _)) (pss_one (ps_expr (pe_call (ok_press_by_rounds T) (hr.mono (by decide)) (by rfl) T.g_press_by_rounds T.f_press_by_rounds.kp T.b_press_by_rounds .nil pass0 (pa_cons (pe_fld (pv 0) rfl) (pa_cons (pv 1) pa_nil))))) (pss_one (ps_expr (pe_call (ok_press_by_order T) (hr.mono (by decide)) (by rfl) T.g_press_by_order T.f_press_by_order.kp T.b_press_by_order .nil pass0 (pa_cons (pe_fld (pv 0) rfl) (pa_cons (pv 1) (pa_cons (pe_fld (pv 0) rfl) pa_nil)))))))
      (pss_one (ps_ret (pe_call (ok_summed T) (hr.mono (by decide)) (by rfl) T.g_summed T.f_summed.kp T.b_summed .nil passL (pa_cons (pe_fld (pv 0) rfl) (pa_cons (pv 1) (pa_cons (pe_fld (pv 0) rfl) pa_nil))))))), ?_⟩
  try dsimp only [cxOf, Cx.nox, Cx.wish]
  simp only [L2.start, List.map_cons, List.map_nil, List.length_cons, List.length_nil, Nat.reduceAdd, Nat.reduceSub, List.replicate_succ, List.replicate_zero, List.cons_append, List.nil_append]
  obtain ⟨P, ha, hM, rps, rc, ops, spps, odl, hcl, hsum, hrl, ok, nl, dk, hrs, h⟩ := h
  obtain ⟨C, dx, e1, c1⟩ := id P.fp
  obtain rfl := c1.one T.nc_Plan
  have k1 := T.cl_Plan
  have k2 := T.n_Plan_sheet
  have k3 := T.n_Plan_order
  have k4 := T.n_Plan_splits
  have hat : ∀ p ∈ ps, ∃ xs, H p = some (.lst xs) := fun p m => by
    obtain ⟨xs, e⟩ := ha.2.at m
    exact ⟨_, e⟩
  have hsh := P.fs
  have behind : ∀ (ks : List Nat) (rs2 : List Row) (cols2 : List (List Nat)) (H2 : Hp), PChain rs cols ks rs2 cols2 → (ready (lens cols2)).length = 0 → HeapAt K H2 he c ps cols2 → SheetAt K H2 sh r → RowsM H2 r rs2 → Fr (r :: ps) H H2 → PlanI K H2 pl sh r d ov sp wd od ns →
      sp_summed K ([.ref sh, .ref he, .ref sp] ++ []) H2 Q (fun _ _ _ => False) := fun ks rs2 cols2 H2 ch hr0 ha2 hs2 hM2 f2 P2 => by
    have cl := ch.len
    have cs := ch.sum
    have co := ch.ok ok nl dk
    refine ⟨sh, r, he, c, sp, ps, cols2, rs2, ns, N, rfl, ha2, hs2, hM2, rps, rc, by omega, P2.fsp, P2.fne, co.1, co.2.1, co.2.2, by omega, fun ⟨xs, m, l⟩ => ?_, fun _ p outs R H3 np O hp _ _ hM3 f3 => ?_⟩
    · have := len2' hr0 m
      omega
    · refine h ks rs2 cols2 outs R p H3 ?_ ch O hp hM3 (f2.trans (f3.mono fun m hm => by rw [List.mem_singleton.mp hm]; exact List.mem_cons_self ..))
      cases e : H p with
      | none => rfl
      | some o =>
        have pr : p ≠ r := hM2.fresh np
        by_cases m : p ∈ ps
        · obtain ⟨xs, e9⟩ := ha2.2.at m
          rw [np] at e9
          cases e9
        · have := f2 _ _ e (fun z => by
            rcases List.mem_cons.mp z with z | z
            · exact pr z
            · exact m z)
          rw [np] at this
          cases this
  cases od with
  | none =>
    have eo : ov = .non := P.fo
    subst eo
    walk_at "ws"
    refine ⟨sh, r, he, c, ps, cols, rs, rfl, ha, hsh, hM, rps, rc, by omega, hsum, hrl, fun n ks rs2 cols2 H2 ch _ hr0 _ ha2 hs2 hM2 f2 => ?_⟩
    have P2 := P.frp hM f2 hat ops spps
    obtain ⟨C, dx2, e2, c2⟩ := id P2.fp
    obtain rfl := c2.one T.nc_Plan
    walk_at "ws"
    exact behind ks rs2 cols2 H2 ch hr0 ha2 hs2 hM2 f2 P2
  | some l =>
    obtain ⟨o, eo, e2, e3⟩ := id P.fo
    subst eo
    walk_at "ws"
    refine ⟨sh, r, he, c, o, ps, cols, rs, l, rfl, ha, hsh, hM, rps, rc, e2, e3, ops o rfl, by omega, hsum, hrl, odl l rfl, fun ks rs2 cols2 p H2 ch hr0 _ _ np ha2 hs2 hM2 f2 _ => ?_⟩
    have P2 := P.frp hM f2 hat ops spps
    obtain ⟨C, dx2, e2, c2⟩ := id P2.fp
    obtain rfl := c2.one T.nc_Plan
    walk_at "ws"
    exact behind ks rs2 cols2 H2 ch hr0 ha2 hs2 hM2 f2 P2

/-! a sum taken apart -/
def PieceAt (H : Hp) (p : Addr) (x : Int × Fm) : Prop := ∃ q, H p = some (.tup [.int x.1, .ref q]) ∧ FmAt H q x.2
theorem PieceAt.keep {H H' : Hp} {p : Addr} {x : Int × Fm} (h : PieceAt H p x) (s : ∀ p xs, H p = some (.tup xs) → H' p = some (.tup xs)) : PieceAt H' p x := by
  obtain ⟨q, h1, h2⟩ := h
  exact ⟨q, s _ _ h1, h2.keep s⟩
def PiecesAt (H : Hp) (p : Addr) (xs : List (Int × Fm)) : Prop := ∃ ps : List Addr, H p = some (.lst (ps.map V.ref)) ∧ A2 (PieceAt H) ps xs
theorem PiecesAt.same {H H' : Hp} {p : Addr} {xs : List (Int × Fm)} (h : PiecesAt H p xs) (s : Same H H') : PiecesAt H' p xs := by
  obtain ⟨ps, h1, h2⟩ := h
  exact ⟨ps, s _ _ h1, h2.mono fun _ _ k => k.keep fun _ _ e => s _ _ e⟩
theorem A2.app {α β : Type} {R : α → β → Prop} {xs us : List α} {ys vs : List β} (h : A2 R xs ys) (k : A2 R us vs) : A2 R (xs ++ us) (ys ++ vs) := by
  refine ⟨by rw [List.length_append, List.length_append, h.1, k.1], fun i x y hx hy => ?_⟩
  by_cases c : i < xs.length
  · rw [List.getElem?_append_left c] at hx
    rw [List.getElem?_append_left (by rw [← h.1]; exact c)] at hy
    exact h.2 i x y hx hy
  · rw [List.getElem?_append_right (by omega)] at hx
    rw [List.getElem?_append_right (by rw [← h.1]; omega), ← h.1] at hy
    exact k.2 _ x y hx hy
def sp_apart (K : PySem.W.Frag) (n : Nat) : Sp := fun vs H Q _ => ∃ (p : Addr) (s : Int) (f : Fm), vs = [.ref p, .int s] ∧ FmAt H p f ∧ f.size ≤ n ∧ f.size ≤ 1000 ∧ ∀ q H', H q = none → PiecesAt H' q (apartF f s) → Same H H' → Q (.ref q) H'
theorem no_apart {vs : List V} {H : Hp} {Q : VK} {E : XK} (h : sp_apart K 0 vs H Q E) : False := by
  obtain ⟨p, s, f, _, _, h0, _⟩ := h
  have := f.size_pos
  omega
theorem pieces_cat {H H1 H2 H3 : Hp} {p q l : Addr} {xs ys : List (Int × Fm)} (h : PiecesAt H1 p xs) (k : PiecesAt H2 q ys) (s12 : Same H1 H2) (s23 : Same H2 H3) {us vs : List V} (e1 : H2 p = some (.lst us)) (e2 : H2 q = some (.lst vs)) (e : H3 l = some (.lst (us ++ vs))) : PiecesAt H3 l (xs ++ ys) := by
  obtain ⟨ps, h1, h2⟩ := h.same s12
  obtain ⟨qs, k1, k2⟩ := k
  rw [e1] at h1
  rw [e2] at k1
  cases h1
  cases k1
  refine ⟨ps ++ qs, by rw [e, List.map_append], ?_⟩
  exact (A2.app h2 k2).mono fun _ _ z => z.keep fun _ _ e => s23 _ _ e
theorem PiecesAt.lst {H : Hp} {p : Addr} {xs : List (Int × Fm)} (h : PiecesAt H p xs) : ∃ us : List V, H p = some (.lst us) ∧ us.length = xs.length := by
  obtain ⟨ps, h1, h2⟩ := h
  exact ⟨_, h1, by rw [List.length_map, h2.1]⟩
theorem rec_apart (T : Top K mg) (n : Nat) (ih : FnOk P w K mg base CX0 (1 + n) T.a_apart T.d_apart ["formula", "sign"] (sp_apart K n)) : FnOk P w K mg base CX0 (1 + n + 1) T.a_apart T.d_apart ["formula", "sign"] (sp_apart K (n + 1)) := by
  refine T.f_apart.ok sc_apart (fun vs H Q E h => ?_) (fun cdv A outer s H vs Q E hr h => ?_)
  · obtain ⟨p, s, f, rfl, _⟩ := h
    rfl
  obtain ⟨p, s, f, rfl, h⟩ := h
  refine ⟨_, (pss_cons (ps_if (pt_cmpR op_eq (pe_ix (ix_tupK K) (pv 0) pe_int (fun _ _ => rfl)) pe_str (nomark _)) (pss_one (ps_ret (pe_call ih hr (by rfl) T.g_apart T.f_apart.kp T.b_apart .nil pass0 (pa_cons (pe_ix (ix_tupK K) (pv 0) pe_int (fun _ _ => rfl)) (pa_cons (pe_un un_neg (pv 1)) pa_nil))))) pss_nil)
      (pss_cons (ps_if (pt_cmpR op_eq (pe_ix (ix_tupK K) (pv 0) pe_int (fun _ _ => rfl)) pe_str (nomark _)) (pss_one (ps_ret (pe_op op_cat (pe_call ih hr (by rfl) T.g_apart T.f_apart.kp T.b_apart .nil pass0 (pa_cons (pe_ix (ix_tupK K) (pv 0) pe_int (fun _ _ => rfl)) (pa_cons (pv 1) pa_nil))) (pe_call ih hr (by rfl) T.g_apart T.f_apart.kp T.b_apart .nil pass0 (pa_cons (pe_ix (ix_tupK K) (pv 0) pe_int (fun _ _ => rfl)) (pa_cons (pv 1) pa_nil)))))) pss_nil)
      (pss_cons (ps_if (pt_cmpR op_eq (pe_ix (ix_tupK K) (pv 0) pe_int (fun _ _ => rfl)) pe_str (nomark _)) (pss_one (ps_ret (pe_op op_cat (pe_call ih hr (by rfl) T.g_apart T.f_apart.kp T.b_apart .nil pass0 (pa_cons (pe_ix (ix_tupK K) (pv 0) pe_int (fun _ _ => rfl)) (pa_cons (pv 1) pa_nil))) (pe_call ih hr (by rfl) T.g_apart T.f_apart.kp T.b_apart .nil pass0 (pa_cons (pe_ix (ix_tupK K) (pv 0) pe_int (fun _ _ => rfl)) (pa_cons (pe_un un_neg (pv 1)) pa_nil)))))) pss_nil)
      (pss_one (ps_ret (pe_lst (pa_cons (pe_tup (pa_cons (pv 1) (pa_cons (pv 0) pa_nil))) pa_nil))))))), ?_⟩
  try dsimp only [cxOf, Cx.nox, Cx.wish]
  simp only [L2.start, List.map_cons, List.map_nil, List.length_cons, List.length_nil, Nat.reduceAdd, Nat.reduceSub, List.replicate_succ, List.replicate_zero, List.cons_append, List.nil_append]
  obtain ⟨hp, hn, hk, h⟩ := h
  cases f with
  | name m =>
    have hp' : H p = some (.tup [.str "name", .str m]) := hp
    walk_at "ws"
    rename_i q H1 n1 s1 e1 l H2 n2 s2 e2
    exact h l H2 (s1.free n2) ⟨[q], e2, A2.nil.snoc ⟨p, s2 _ _ e1, hp.same (s1.trans s2)⟩⟩ (s1.trans s2)
  | num v =>
    have hp' : H p = some (.tup [.str "number", .int v]) := hp
    walk_at "ws"
    rename_i q H1 n1 s1 e1 l H2 n2 s2 e2
    exact h l H2 (s1.free n2) ⟨[q], e2, A2.nil.snoc ⟨p, s2 _ _ e1, hp.same (s1.trans s2)⟩⟩ (s1.trans s2)
  | times f g =>
    obtain ⟨a, b, hp', ha, hb⟩ := id hp
    walk_at "ws"
    rename_i q H1 n1 s1 e1 l H2 n2 s2 e2
    exact h l H2 (s1.free n2) ⟨[q], e2, A2.nil.snoc ⟨p, s2 _ _ e1, hp.same (s1.trans s2)⟩⟩ (s1.trans s2)
  | turned f =>
    obtain ⟨a, hp, ha⟩ := hp
    have hn : f.size + 1 ≤ n + 1 := hn
    have hk : f.size + 1 ≤ 1000 := hk
    walk_at "ws"
    exact ⟨a, -s, f, rfl, ha, by omega, by omega, h⟩
  | plus f g =>
    obtain ⟨a, b, hp, ha, hb⟩ := hp
    have hn : f.size + g.size + 1 ≤ n + 1 := hn
    have hk : f.size + g.size + 1 ≤ 1000 := hk
    have l1 := apart_len f s
    have l2 := apart_len g s
    have := f.size_pos
    have := g.size_pos
    walk_at "ws"
    refine ⟨a, s, f, rfl, ha, by omega, by omega, fun q1 H1 _ h1 s1 => ?_⟩
    have hp1 := s1 _ _ hp
    walk_at "ws"
    refine ⟨b, s, g, rfl, hb.same s1, by omega, by omega, fun q2 H2 _ h2 s2 => ?_⟩
    obtain ⟨us, e1, u1⟩ := (h1.same s2).lst
    obtain ⟨vs, e2, u2⟩ := h2.lst
    walk_at "ws"
    intro l H3 n3 s3 e3
    exact h l H3 ((s1.trans s2).free n3) (pieces_cat (H := H) h1 h2 s2 s3 e1 e2 e3) ((s1.trans s2).trans s3)
  | less f g =>
    obtain ⟨a, b, hp, ha, hb⟩ := hp
    have hn : f.size + g.size + 1 ≤ n + 1 := hn
    have hk : f.size + g.size + 1 ≤ 1000 := hk
    have l1 := apart_len f s
    have l2 := apart_len g (-s)
    have := f.size_pos
    have := g.size_pos
    walk_at "ws"
    refine ⟨a, s, f, rfl, ha, by omega, by omega, fun q1 H1 _ h1 s1 => ?_⟩
    have hp1 := s1 _ _ hp
    walk_at "ws"
    refine ⟨b, -s, g, rfl, hb.same s1, by omega, by omega, fun q2 H2 _ h2 s2 => ?_⟩
    obtain ⟨us, e1, u1⟩ := (h1.same s2).lst
    obtain ⟨vs, e2, u2⟩ := h2.lst
    walk_at "ws"
    intro l H3 n3 s3 e3
    exact h l H3 ((s1.trans s2).free n3) (pieces_cat (H := H) h1 h2 s2 s3 e1 e2 e3) ((s1.trans s2).trans s3)
theorem all_apart (T : Top K mg) : ∀ n : Nat, FnOk P w K mg base CX0 (1 + n) T.a_apart T.d_apart ["formula", "sign"] (sp_apart K n)
  | 0 => T.f_apart.ok (k := 0) sc_apart (fun _ _ _ _ h => (no_apart h).elim) (fun _ _ _ _ _ _ _ _ _ h => (no_apart h).elim)
  | n + 1 => rec_apart T n (all_apart T n)
theorem ok_apart (T : Top K mg) : FnOk P w K mg base CX0 32 T.a_apart T.d_apart ["formula", "sign"] (sp_apart K 31) := all_apart T 31

/-! dots as lists of tuples -/
def DotAt (H : Hp) (p : Addr) (d : Dot) : Prop := H p = some (.tup [.int (d.k : Int), .int (d.w : Int), .int d.s])
def DotsAt (H : Hp) (p : Addr) (ds : List Dot) : Prop := ∃ ps : List Addr, H p = some (.lst (ps.map V.ref)) ∧ A2 (DotAt H) ps ds
theorem fr_new {ms : List Addr} {H G : Hp} {D : Addr} {o : HO} (f : Fr ms H G) (n : H D = none) : Fr ms H (upd G D o) := fun b u e m => by
  rw [upd_ne (fun z => by rw [z, n] at e; cases e)]
  exact f b u e m
theorem DotsAt.fr {H H' : Hp} {p : Addr} {ds : List Dot} {ms : List Addr} (h : DotsAt H p ds) (f : Fr ms H H') (hp : p ∉ ms) (ht : ∀ m ∈ ms, ∀ xs, H m ≠ some (.tup xs)) : DotsAt H' p ds := by
  obtain ⟨ps, h1, h2⟩ := h
  exact ⟨ps, f _ _ h1 hp, h2.mono fun q d e => f _ _ e fun m => ht q m _ e⟩
theorem DotsAt.same {H H' : Hp} {p : Addr} {ds : List Dot} (h : DotsAt H p ds) (s : Same H H') : DotsAt H' p ds := h.fr (Fr.of (ms := []) s) (by simp) fun m z => by cases z
theorem DotsAt.push {G : Hp} {D q : Addr} {ds : List Dot} {d : Dot} {ps : List Addr} (e : G D = some (.lst (ps.map V.ref))) (hA : A2 (DotAt G) ps ds) (hd : DotAt G q d) : DotsAt (upd G D (.lst (ps.map V.ref ++ [.ref q]))) D (ds ++ [d]) := by
  have k : ∀ {p : Addr} {x : Dot}, DotAt G p x → DotAt (upd G D (.lst (ps.map V.ref ++ [.ref q]))) p x := fun {p x} h => by
    show upd G D _ p = _
    rw [upd_ne (fun z => by rw [z] at h; rw [show G D = _ from h] at e; cases e)]
    exact h
  exact ⟨ps ++ [q], by rw [upd_same, List.map_append]; rfl, (hA.mono fun _ _ h => k h).snoc (k hd)⟩
theorem DotsAt.len {H : Hp} {ds : List Dot} {ps : List Addr} (hA : A2 (DotAt H) ps ds) : (ps.map V.ref).length = ds.length := by rw [List.length_map, hA.1]
theorem rows_tup {H : Hp} {r : Addr} {rs : List Row} (h : RowsM H r rs) : ∀ m ∈ [r], ∀ xs, H m ≠ some (.tup xs) := fun m hm xs e => by
  obtain ⟨_, e2, _⟩ := h
  rw [List.mem_singleton.mp hm, e2] at e
  cases e
theorem rows_put {G : Hp} {D r : Addr} {R : List Row} {xs : List V} {o : HO} (hM : RowsM G r R) (Dr : D ≠ r) (e : G D = some (.lst xs)) : RowsM (upd G D o) r R :=
  hM.fr (ms := [D]) (Fr.put (List.mem_cons_self ..)) (by simpa using Dr.symm) fun p x m k => by
    rw [List.mem_singleton.mp m] at k
    rw [show G D = _ from k] at e
    cases e
def sp_name_dots (K : PySem.W.Frag) : Sp := fun vs H Q _ => ∃ (pl sh r d sp : Addr) (ov : V) (wd : List (Str × Int)) (od : Option (List Int)) (ns : List Int) (rs : List Row) (n : Str) (w : Int), vs = [.ref pl, .str n] ∧ PlanI K H pl sh r d ov sp wd od ns ∧ RowsM H r rs ∧ lookW wd n = some w ∧ (w ≠ 0 ∧ -24 ≤ w ∧ w ≤ 24) ∧ rs.length ≤ 500000 ∧
  ∀ p H', H p = none → DotsAt H' p (wordD (decide (w < 0)) (fromN rs.length w.natAbs)) → RowsM H' r (rs ++ nameR n w.natAbs) → Fr [r] H H' → Q (.ref p) H'
theorem ok_name_dots (T : Top K mg) : FnOk P w K mg base CX0 2 T.a_name_dots T.d_name_dots ["plan", "name"] (sp_name_dots K) := by
  refine T.f_name_dots.ok sc_name_dots (fun vs H Q E h => ?_) (fun cdv A outer s H vs Q E hr h => ?_)
  · obtain ⟨pl, sh, r, d, sp, ov, wd, od, ns, rs, n, w, rfl, _⟩ := h
    rfl
  obtain ⟨pl, sh, r, d, sp, ov, wd, od, ns, rs, n, w, rfl, h⟩ := h
  refine ⟨_, (pss_cons (ps_set (i := 2) sc_name_dots.nd rfl (.inl rfl) (pe_dget (hu_of hr) (pe_fld (pv 0) rfl) (pv 1) (fun _ _ => rfl)))
      (pss_cons (ps_set (i := 3) sc_name_dots.nd rfl (.inl rfl) (pe_lst pa_nil))
      (pss_cons (ps_for PassesOwn.never rfl (pi_range1 (by rfl) T.z_range (pa_cons (pe_callB c_abs (by rfl) T.z_abs (by decide +kernel) (pa_cons (pv 2) pa_nil)) pa_nil)) (pg_name (i := 4) sc_name_dots.nd rfl (.inl rfl))
      (pss_cons (ps_set (i := 5) sc_name_dots.nd rfl (.inl rfl) pe_int)
      (Evl.pss_cut (ps_if (PW.pt (pw_and (pt_cmpR op_lt (pv 2) pe_int (nomark _)) (pw_and1 (pt_cmpR op_eq (pv 4) (pe_op op_sub (pe_un un_neg (pv 2)) pe_int) (nomark _))))) (pss_one (ps_set (i := 5) sc_name_dots.nd rfl (.inl rfl) (pe_un un_neg pe_int))) pss_nil)
      (pss_one (ps_expr (pe_bm PySem.F.plainAttrs_list PySem.F.slot_list_append PySem.F.type_list_append mt_append (pv 3) (pa_cons (pe_tup (pa_cons (pv 4) (pa_cons (pe_meth (pe_fld (pv 0) rfl) T.cl_Sheet T.m_Sheet_add (ok_Sheet_add T) (hr.mono (by decide)) T.b_Sheet_add .nil pass0 (pa_cons (pe_tup (pa_cons pe_str (pa_cons (pv 1) (pa_cons (pv 4) pa_nil)))) pa_nil)) (pa_cons (pv 5) pa_nil)))) pa_nil)))))))
      (pss_one (ps_ret (pv 3)))))), ?_⟩
  try dsimp only [cxOf, Cx.nox, Cx.wish]
  simp only [L2.start, List.map_cons, List.map_nil, List.length_cons, List.length_nil, Nat.reduceAdd, Nat.reduceSub, List.replicate_succ, List.replicate_zero, List.cons_append, List.nil_append]
  obtain ⟨P, hM, hw, hwb, hrl, h⟩ := h
  obtain ⟨C, dx, e1, c1⟩ := id P.fp
  obtain rfl := c1.one T.nc_Plan
  have k1 := T.cl_Plan
  have k2 := T.n_Plan_sheet
  have k3 := T.n_Plan_widths
  have k4 := T.cl_Sheet
  have ed := P.fw
  have hw2 : valV (wkv wd) (Sum.inr n) = some (.int w) := by rw [valV_wkv, hw]; rfl
  walk_at "ws"
  rename_i D H1 nD s1 eD
  have hN : (if w < 0 then -w else w).toNat = w.natAbs := by split <;> omega
  rw [hN]
  have nDr : ∀ {X : Hp} {qs : List Row}, RowsM X r qs → X D = some (.lst []) → Same H X → D ≠ r := fun {X qs} hX eX sX => by
    intro z
    obtain ⟨_, e, _⟩ := hM
    rw [← z, nD] at e
    cases e
  have Dr : D ≠ r := nDr (hM.same s1) eD s1
  have Dsh : sh ≠ D := fun z => by
    obtain ⟨_, _, e, _⟩ := P.fs
    rw [z, nD] at e
    cases e
  refine for_r (fun i σ' G => ∃ (y4 y5 : Option V), i ≤ w.natAbs ∧ σ' = [some (.ref pl), some (.str n), some (.int w), some (.ref D), y4, y5] ∧ Fr [r] H G ∧ RowsM G r (rs ++ nameR n i) ∧ DotsAt G D ((wordD (decide (w < 0)) (fromN rs.length w.natAbs)).take i))
    ⟨_, _, Nat.zero_le _, rfl, Fr.of s1, by rw [show nameR n 0 = [] from rfl, List.append_nil]; exact hM.same s1, [], eD, A2.nil⟩ (fun i σ' G hi q => ?_) (fun σ' G q => ?_)
  · obtain ⟨y4, y5, hic, rfl, fG, hMG, hDG⟩ := q
    have PG := P.fr hM fG fun m hm => .inl (List.mem_singleton.mp hm)
    obtain ⟨C, dxG, eG, cG⟩ := id PG.fp
    obtain rfl := cG.one T.nc_Plan
    obtain ⟨C, dsG, esG, csG⟩ := id PG.fs
    obtain rfl := csG.one T.nc_Sheet
    obtain ⟨ps, eDG, hA⟩ := id hDG
    have hpl := DotsAt.len hA
    have hpl2 : (ps.map V.ref).length ≤ 1000 := by rw [hpl, List.length_take]; omega
    have hws := wordD_get (b := decide (w < 0)) (fromN_get (a := rs.length) hi)
    rw [fromN_len] at hws
    have hln : (rs ++ nameR n i).length = rs.length + i := by rw [List.length_append, nameR_len]
    walk_at "ws"
    refine w_cut (fun σ' G' => σ' = [some (.ref pl), some (.str n), some (.int w), some (.ref D), some (.int (i : Int)), some (.int (if decide (w < 0) = true ∧ i + 1 = w.natAbs then -1 else 1))] ∧ G' = G) ?_ fun σ' G' k => ?_
    · walk_at "ws"
      · rw [if_pos ⟨decide_eq_true (by omega), by omega⟩]
        exact ⟨rfl, rfl⟩
      · rw [if_neg (fun z => by have := of_decide_eq_true z.1; omega)]
        exact ⟨rfl, rfl⟩
      · rw [if_neg (fun z => by have := of_decide_eq_true z.1; omega)]
        exact ⟨rfl, rfl⟩
    obtain ⟨rfl, rfl⟩ := k
    generalize (if decide (w < 0) = true ∧ i + 1 = w.natAbs then (-1 : Int) else 1) = sg at *
    walk_at "ws"
    rename_i q1 G1 n1 s1' e1'
    refine use_add (x := .inn n i) (PG.fs.same s1') (hMG.same s1') e1' (by omega) fun G2 hs2 hM2 f2 => ?_
    have hD2 := (hDG.same s1').fr f2 (by simpa using Dr) (rows_tup (hMG.same s1'))
    obtain ⟨ps2, eD2, hA2⟩ := hD2
    have hpl3 : (ps2.map V.ref).length ≤ 1000 := by rw [DotsAt.len hA2, List.length_take]; omega
    walk_at "ws"
    rename_i q3 G3 n3 s3 e3
    have eD3 := s3 _ _ eD2
    walk_at "ws"
    have hM3 := hM2.same s3
    have f3 : Fr [r] H G3 := ((fG.trans (Fr.of s1')).trans f2).trans (Fr.of s3)
    have hA3 : A2 (DotAt G3) ps2 _ := hA2.mono fun _ _ e => s3 _ _ e
    rw [hln] at e3
    refine ⟨_, _, hi, rfl, fr_new f3 nD, ?_, ?_⟩
    · rw [nameR_succ, ← List.append_assoc]
      exact rows_put hM3 Dr eD3
    · rw [take_snoc hws]
      exact DotsAt.push eD3 hA3 e3
  · obtain ⟨y4, y5, hic, rfl, fG, hMG, hDG⟩ := q
    rw [List.take_of_length_le (by rw [wordD_len, fromN_len]; exact Nat.le_refl _)] at hDG
    walk_at "ws"
    exact h D G nD hDG hMG fG

/-! formulas made into gates: the walks -/
structure MkC (K : PySem.W.Frag) (H : Hp) (pl sh r d : Addr) (ov : V) (sp : Addr) (wd : List (Str × Int)) (od : Option (List Int)) (ns : List Int) (rs : List Row) (N : Str → Prop) (B D S : Nat) (f : Fm) : Prop where
  P : PlanI K H pl sh r d ov sp wd od ns
  M : RowsM H r rs
  W : RowsW N wd rs
  ok : FmOk N f
  fit : FitB (B : Int) wd f
  has : Has N wd
  wdk : WdOk wd
  sz : f.size ≤ 30
  odl : ∀ l, od = some l → l.length ≤ 1000
  b48 : B ≤ 48
  bd : B * B ≤ D
  bs : 3 * B * B + 9 * B + 1 ≤ S
theorem MkC.room {H : Hp} {pl sh r d sp : Addr} {ov : V} {wd : List (Str × Int)} {od : Option (List Int)} {ns : List Int} {rs : List Row} {N : Str → Prop} {B D S : Nat} {f : Fm} (M : MkC K H pl sh r d ov sp wd od ns rs N B D S f) : ∃ m b, RoomOk (spanF wd f).1 (spanF wd f).2 m b ∧ m ≤ B := by
  obtain ⟨m, b, h⟩ := room_ok (span_le M.wdk f)
  refine ⟨m, b, h, ?_⟩
  have := M.fit f (self_part f)
  unfold roomF at this
  rw [h.eq] at this
  have : (m : Int) ≤ B := this
  omega
def sp_bits_made (K : PySem.W.Frag) (n : Nat) : Sp := fun vs H Q _ => ∃ (pl sh r d sp p : Addr) (ov : V) (wd : List (Str × Int)) (od : Option (List Int)) (ns : List Int) (rs : List Row) (N : Str → Prop) (B D S : Nat) (f : Fm), vs = [.ref pl, .ref p] ∧ FmAt H p f ∧ MkC K H pl sh r d ov sp wd od ns rs N B D S f ∧ rs.length + costF D S f + S ≤ 290000 ∧ 3 * f.size + 2 ≤ n ∧
  ∀ (outs : List Nat) (R : List Row) (m : Nat) (b : Bool) q H', RoomOk (spanF wd f).1 (spanF wd f).2 m b → MadeOk N wd rs R f outs m → R.length ≤ rs.length + costF D S f + S → H q = none → NatsAt H' q outs → RowsM H' r R → Fr [r] H H' → Q (.ref q) H'
def sp_word_dots (K : PySem.W.Frag) (n : Nat) : Sp := fun vs H Q _ => ∃ (pl sh r d sp p : Addr) (ov : V) (wd : List (Str × Int)) (od : Option (List Int)) (ns : List Int) (rs : List Row) (N : Str → Prop) (B D S : Nat) (f : Fm), vs = [.ref pl, .ref p] ∧ FmAt H p f ∧ MkC K H pl sh r d ov sp wd od ns rs N B D S f ∧ rs.length + costF D S f + S ≤ 290000 ∧ 3 * f.size + 3 ≤ n ∧
  ∀ (ds : List Dot) (R : List Row) q H', WordRes wd R ds B (fun ws => worthF ws f) → Ext rs R → RowsW N wd R → R.length ≤ rs.length + costF D S f + S → H q = none → DotsAt H' q ds → RowsM H' r R → Fr [r] H H' → Q (.ref q) H'
def sp_part_dots (K : PySem.W.Frag) (n : Nat) : Sp := fun vs H Q _ => ∃ (pl sh r d sp p : Addr) (ov : V) (wd : List (Str × Int)) (od : Option (List Int)) (ns : List Int) (rs : List Row) (N : Str → Prop) (B D S many : Nat) (f : Fm), vs = [.ref pl, .ref p, .int (many : Int)] ∧ FmAt H p f ∧ MkC K H pl sh r d ov sp wd od ns rs N B D S f ∧ rs.length + costF D S f ≤ 290000 ∧ 3 * f.size + 1 ≤ n ∧ many ≤ 48 ∧ ((∃ x, f = .name x) ∨ ∃ g h, f = .times g h) ∧
  ∀ (ds : List Dot) (R : List Row) q H', PartRes wd R ds many (fun ws => worthF ws f) → Ext rs R → RowsW N wd R → R.length + 6 * ds.length ≤ rs.length + costF D S f → H q = none → DotsAt H' q ds → RowsM H' r R → Fr [r] H H' → Q (.ref q) H'
theorem no_bits_made {vs : List V} {H : Hp} {Q : VK} {E : XK} (h : sp_bits_made K 0 vs H Q E) : False := by
  obtain ⟨pl, sh, r, d, sp, p, ov, wd, od, ns, rs, N, B, D, S, f, _, _, _, _, h0, _⟩ := h
  omega
theorem no_word_dots {vs : List V} {H : Hp} {Q : VK} {E : XK} (h : sp_word_dots K 0 vs H Q E) : False := by
  obtain ⟨pl, sh, r, d, sp, p, ov, wd, od, ns, rs, N, B, D, S, f, _, _, _, _, h0, _⟩ := h
  omega
theorem no_part_dots {vs : List V} {H : Hp} {Q : VK} {E : XK} (h : sp_part_dots K 0 vs H Q E) : False := by
  obtain ⟨pl, sh, r, d, sp, p, ov, wd, od, ns, rs, N, B, D, S, many, f, _, _, _, _, h0, _⟩ := h
  omega
theorem look_name {N : Str → Prop} {wd : List (Str × Int)} {B : Int} {x : Str} (has : Has N wd) (wdk : WdOk wd) (ok : FmOk N (.name x)) (fit : FitB B wd (.name x)) : ∃ w, lookW wd x = some w ∧ (w ≠ 0 ∧ -24 ≤ w ∧ w ≤ 24) ∧ (w.natAbs : Int) ≤ B := by
  obtain ⟨w, hw⟩ := has x ok
  have hb := wdk x w hw
  refine ⟨w, hw, hb, ?_⟩
  have := fit _ (self_part _)
  unfold roomF at this
  have e : spanF wd (.name x) = spanW w := by show spanW ((lookW wd x).getD 1) = _; rw [hw]; rfl
  rw [e, room_width hb.1] at this
  exact this
theorem rec_word_dots (T : Top K mg) (n : Nat) (ih_bits_made : FnOk P w K mg base CX0 (73 + n) T.a_bits_made T.d_bits_made ["plan", "formula"] (sp_bits_made K n)) (ih_part_dots : FnOk P w K mg base CX0 (73 + n) T.a_part_dots T.d_part_dots ["plan", "formula", "many"] (sp_part_dots K n)) (ih_word_dots : FnOk P w K mg base CX0 (73 + n) T.a_word_dots T.d_word_dots ["plan", "formula"] (sp_word_dots K n)) : FnOk P w K mg base CX0 (73 + n + 1) T.a_word_dots T.d_word_dots ["plan", "formula"] (sp_word_dots K (n + 1)) := by
  refine T.f_word_dots.ok sc_word_dots (fun vs H Q E h => ?_) (fun cdv A outer s H vs Q E hr h => ?_)
  · obtain ⟨pl, sh, r, d, sp, p, ov, wd, od, ns, rs, N, B, D, S, f, rfl, _⟩ := h
    rfl
  obtain ⟨pl, sh, r, d, sp, p, ov, wd, od, ns, rs, N, B, D, S, f, rfl, h⟩ := h
  refine ⟨_, (pss_cons (ps_if (pt_cmpR op_eq (pe_ix (ix_tupK K) (pv 1) pe_int (fun _ _ => rfl)) pe_str (nomark _)) (pss_one (ps_ret (pe_call (ok_name_dots T) (hr.mono (by omega)) (by rfl) T.g_name_dots T.f_name_dots.kp T.b_name_dots .nil pass0 (pa_cons (pv 0) (pa_cons (pe_ix (ix_tupK K) (pv 1) pe_int (fun _ _ => rfl)) pa_nil))))) pss_nil)
      (pss_cons (ps_asg (pe_call (ok_room_of T) (hr.mono (by omega)) (by rfl) T.g_room_of T.f_room_of.kp T.b_room_of .nil pass0 (pa_cons (pe_call (ok_span_of T) (hr.mono (by omega)) (by rfl) T.g_span_of T.f_span_of.kp T.b_span_of .nil pass0 (pa_cons (pv 1) (pa_cons (pe_fld (pv 0) rfl) pa_nil))) pa_nil)) (pg_tup (by rfl) (pgs_cons (pg_name (i := 2) sc_word_dots.nd rfl (.inl rfl)) (pgs_cons (pg_name (i := 3) sc_word_dots.nd rfl (.inl rfl)) pgs_nil))))
      (pss_cons (ps_set (i := 4) sc_word_dots.nd rfl (.inl rfl) (pe_lst pa_nil))
      (pss_cons (ps_for PassesOwn.never rfl (pi_enum (by rfl) T.z_enumerate (pa_cons (pe_call ih_bits_made hr (by rfl) T.g_bits_made T.f_bits_made.kp T.b_bits_made .nil pass0 (pa_cons (pv 0) (pa_cons (pv 1) pa_nil))) pa_nil)) (pg_tup (by rfl) (pgs_cons (pg_name (i := 5) sc_word_dots.nd rfl (.inl rfl)) (pgs_cons (pg_name (i := 6) sc_word_dots.nd rfl (.inl rfl)) pgs_nil)))
      (pss_cons (ps_set (i := 7) sc_word_dots.nd rfl (.inl rfl) pe_int)
      (Evl.pss_cut (ps_if (PW.pt (pw_and (pt_val (pv 3)) (pw_and1 (pt_cmpR op_eq (pv 5) (pe_op op_sub (pv 2) pe_int) (nomark _))))) (pss_one (ps_set (i := 7) sc_word_dots.nd rfl (.inl rfl) (pe_un un_neg pe_int))) pss_nil)
      (pss_one (ps_expr (pe_bm PySem.F.plainAttrs_list PySem.F.slot_list_append PySem.F.type_list_append mt_append (pv 4) (pa_cons (pe_tup (pa_cons (pv 5) (pa_cons (pv 6) (pa_cons (pv 7) pa_nil)))) pa_nil)))))))
      (pss_one (ps_ret (pv 4))))))), ?_⟩
  try dsimp only [cxOf, Cx.nox, Cx.wish]
  simp only [L2.start, List.map_cons, List.map_nil, List.length_cons, List.length_nil, Nat.reduceAdd, Nat.reduceSub, List.replicate_succ, List.replicate_zero, List.cons_append, List.nil_append]
  obtain ⟨hp, M, hc, hn, h⟩ := h
  obtain ⟨C, dx, e1, c1⟩ := id M.P.fp
  obtain rfl := c1.one T.nc_Plan
  have k1 := T.cl_Plan
  have k2 := T.n_Plan_sheet
  have k3 := T.n_Plan_widths
  have k4 := T.cl_Sheet
  have ed := M.P.fw
  have b48 := M.b48
  obtain ⟨xs, ex⟩ := hp.head
  walk_at "ws"
  refine w_ixT (SqT.of ex) at_0 ?_
  walk_at "ws"
  · rename_i e
    obtain ⟨x, rfl⟩ := headF_name e
    have hp' : H p = some (.tup [.str "name", .str x]) := hp
    obtain ⟨w, hw, hwb, hwB⟩ := look_name M.has M.wdk M.ok M.fit
    have hcost : costF D S (.name x) = 168 := rfl
    walk_at "ws"
    refine ⟨pl, sh, r, d, sp, ov, wd, od, ns, rs, x, w, rfl, M.P, M.M, hw, hwb, by omega, fun q H1 nq hD hM1 f1 => ?_⟩
    walk_at "ws"
    have res := name_res (wd := wd) (R := rs) hw hwb.1
    have e2 : (fun ws : List (Str × Int) => worthF ws (.name x)) = fun ws => (lookW ws x).getD 0 := rfl
    rw [e2] at h
    refine h _ _ q H1 ⟨res.ok, by have := res.len; omega, fun dd m => by have := res.col dd m; omega, res.val⟩ (Ext.app _ _) (name_rows M.W M.ok hw (by omega) _ (Nat.le_refl _)) (by rw [List.length_append, nameR_len]; omega) nq hD hM1 f1
  · rename_i hne
    walk_at "ws"
    obtain ⟨m, b, hr, hmB⟩ := M.room
    refine ⟨p, d, f, wd, N, rfl, hp, ed, M.ok, M.has, M.wdk, by have := M.sz; omega, by have := M.sz; omega, fun q1 H1 n1 s1 eq1 => ?_⟩
    walk_at "ws"
    refine ⟨q1, _, _, rfl, SqT.of eq1, fun q2 H2 n2 s2 eq2 => ?_⟩
    rw [hr.eq] at eq2
    dsimp only at eq2
    walk_at "ws"
    rename_i D0 H3 nD s3 eD
    have s03 := (s1.trans s2).trans s3
    have nD0 : H D0 = none := (s1.trans s2).free nD
    have M3 : MkC K H3 pl sh r d ov sp wd od ns rs N B D S f := ⟨M.P.same M.M s03, M.M.same s03, M.W, M.ok, M.fit, M.has, M.wdk, M.sz, M.odl, M.b48, M.bd, M.bs⟩
    refine ⟨pl, sh, r, d, sp, p, ov, wd, od, ns, rs, N, B, D, S, f, rfl, hp.same s03, M3, hc, by omega, fun outs R m' b' qo H4 hr' hmade hRl nq hout hM4 f4 => ?_⟩
    have hmb : m' = m ∧ b' = b := by
      have e := hr'.eq
      rw [hr.eq] at e
      have a := congrArg Prod.fst e
      have c := congrArg Prod.snd e
      dsimp only at a c
      exact ⟨by omega, c.symm⟩
    obtain ⟨rfl, rfl⟩ := hmb
    have Dr : D0 ≠ r := fun z => by
      obtain ⟨_, e, _⟩ := M.M
      rw [← z, nD0] at e
      cases e
    have eD4 := f4 _ _ eD (by simpa using Dr)
    have f04 : Fr [r] H H4 := (Fr.of s03).trans f4
    have hout' : H4 qo = some (.lst ((natI outs).map V.int)) := hout
    have hol : ((natI outs).map V.int).length = m' := by rw [List.length_map, natI_len, hmade.len]
    have qD : qo ≠ D0 := fun z => by
      rw [z, eD] at nq
      cases nq
    walk_at "ws"
    refine for_e ((natI outs).map V.int) (fun i σ' G => ∃ (y5 y6 y7 : Option V), σ' = [some (.ref pl), some (.ref p), some (.int (m' : Int)), some (.bl b'), some (.ref D0), y5, y6, y7] ∧ Fr [D0] H4 G ∧ DotsAt G D0 ((wordD b' outs).take i))
      ⟨_, _, _, rfl, Fr.refl, [], eD4, A2.nil⟩ (fun i σ' G _ q => ?_) (fun i x σ' G0 G hx q sG => ?_) (fun σ' G q => ?_)
    · obtain ⟨y5, y6, y7, rfl, fG, hDG⟩ := q
      exact SqL.of (fG _ _ hout' (by simpa using qD))
    · obtain ⟨y5, y6, y7, rfl, fG0, hDG0⟩ := q
      have fG := fG0.trans (Fr.of sG)
      have hDG := hDG0.same sG
      obtain ⟨z, hz, rfl⟩ := get_map hx
      obtain ⟨w, hw, rfl⟩ := natI_get hz
      have hi := (List.getElem?_eq_some_iff.mp hw).1
      have hil : i < m' := by rw [← hmade.len]; exact hi
      obtain ⟨ps, eDG, hA⟩ := id hDG
      have hpl := DotsAt.len hA
      have hpl2 : (ps.map V.ref).length ≤ 1000 := by rw [hpl, List.length_take]; omega
      have hws := wordD_get (b := b') hw
      walk_at "ws"
      refine w_cut (fun σ' G' => σ' = [some (.ref pl), some (.ref p), some (.int (m' : Int)), some (.bl b'), some (.ref D0), some (.int (i : Int)), some (.int (w : Int)), some (.int (if b' = true ∧ i + 1 = outs.length then -1 else 1))] ∧ G' = G) ?_ fun σ' G' k => ?_
      · have hml := hmade.len
        cases b' with
        | true =>
          walk_at "ws"
          · rw [if_pos ⟨rfl, by omega⟩]
            exact ⟨rfl, rfl⟩
          · rw [if_neg (fun z => by have := z.2; omega)]
            exact ⟨rfl, rfl⟩
        | false =>
          walk_at "ws"
          rw [if_neg (fun z => by cases z.1)]
          exact ⟨rfl, rfl⟩
      obtain ⟨rfl, rfl⟩ := k
      generalize (if b' = true ∧ i + 1 = outs.length then (-1 : Int) else 1) = sg at *
      walk_at "ws"
      rename_i q3 G3 n3 s3' e3
      have eD3 := s3' _ _ eDG
      refine ⟨_, _, _, rfl, (fG.trans (Fr.of s3')).trans (Fr.put (List.mem_cons_self ..)), ?_⟩
      rw [take_snoc hws]
      exact DotsAt.push eD3 (hA.mono fun _ _ e => s3' _ _ e) e3
    · obtain ⟨y5, y6, y7, rfl, fG, hDG⟩ := q
      rw [List.take_of_length_le (by rw [wordD_len, List.length_map, natI_len]; exact Nat.le_refl _)] at hDG
      walk_at "ws"
      have hw := hmade.word hr' M.has M.ok
      have fall : Fr [r] H G := fun bb o e n => fG _ _ (f04 _ _ e n) fun z => by rw [List.mem_singleton.mp z, nD0] at e; cases e
      have hMG : RowsM G r R := hM4.fr fG (by simpa using Dr.symm) fun q x mm k => by
        rw [List.mem_singleton.mp mm] at k
        rw [show H4 D0 = _ from k] at eD4
        cases eD4
      exact h _ R D0 G ⟨hw.ok, by have := hw.len; omega, fun dd mm => by have := hw.col dd mm; omega, hw.val⟩ hmade.ext hmade.rows hRl nD0 hDG hMG fall
theorem rec_part_dots (T : Top K mg) (n : Nat) (ih_bits_made : FnOk P w K mg base CX0 (73 + n) T.a_bits_made T.d_bits_made ["plan", "formula"] (sp_bits_made K n)) (ih_part_dots : FnOk P w K mg base CX0 (73 + n) T.a_part_dots T.d_part_dots ["plan", "formula", "many"] (sp_part_dots K n)) (ih_word_dots : FnOk P w K mg base CX0 (73 + n) T.a_word_dots T.d_word_dots ["plan", "formula"] (sp_word_dots K n)) : FnOk P w K mg base CX0 (73 + n + 1) T.a_part_dots T.d_part_dots ["plan", "formula", "many"] (sp_part_dots K (n + 1)) := by
  refine T.f_part_dots.ok sc_part_dots (fun vs H Q E h => ?_) (fun cdv A outer s H vs Q E hr h => ?_)
  · obtain ⟨pl, sh, r, d, sp, p, ov, wd, od, ns, rs, N, B, D, S, many, f, rfl, _⟩ := h
    rfl
  obtain ⟨pl, sh, r, d, sp, p, ov, wd, od, ns, rs, N, B, D, S, many, f, rfl, h⟩ := h
  refine ⟨_, (pss_cons (ps_if (pt_cmpR op_eq (pe_ix (ix_tupK K) (pv 1) pe_int (fun _ _ => rfl)) pe_str (nomark _)) (pss_one (ps_ret (pe_call (ok_name_dots T) (hr.mono (by omega)) (by rfl) T.g_name_dots T.f_name_dots.kp T.b_name_dots .nil pass0 (pa_cons (pv 0) (pa_cons (pe_ix (ix_tupK K) (pv 1) pe_int (fun _ _ => rfl)) pa_nil))))) pss_nil)
      (pss_cons (ps_set (i := 3) sc_part_dots.nd rfl (.inl rfl) (pe_call ih_word_dots hr (by rfl) T.g_word_dots T.f_word_dots.kp T.b_word_dots .nil pass0 (pa_cons (pv 0) (pa_cons (pe_ix (ix_tupK K) (pv 1) pe_int (fun _ _ => rfl)) pa_nil))))
      (pss_cons (ps_set (i := 4) sc_part_dots.nd rfl (.inl rfl) (pe_call ih_word_dots hr (by rfl) T.g_word_dots T.f_word_dots.kp T.b_word_dots .nil pass0 (pa_cons (pv 0) (pa_cons (pe_ix (ix_tupK K) (pv 1) pe_int (fun _ _ => rfl)) pa_nil))))
      (pss_cons (ps_set (i := 5) sc_part_dots.nd rfl (.inl rfl) (pe_lst pa_nil))
      (pss_cons (ps_for PassesOwn.never rfl (pi_list (pv 3)) (pg_name (i := 6) sc_part_dots.nd rfl (.inl rfl))
      (pss_one (ps_for PassesOwn.never rfl (pi_list (pv 4)) (pg_name (i := 7) sc_part_dots.nd rfl (.inl rfl))
      (pss_one (ps_if (pt_cmpR op_lt (pe_op op_add (pe_ix (ix_tupK K) (pv 6) pe_int (fun _ _ => rfl)) (pe_ix (ix_tupK K) (pv 7) pe_int (fun _ _ => rfl))) (pv 2) (nomark _)) (pss_cons (ps_set (i := 8) sc_part_dots.nd rfl (.inl rfl) (pe_meth (pe_fld (pv 0) rfl) T.cl_Sheet T.m_Sheet_add (ok_Sheet_add T) (hr.mono (by omega)) T.b_Sheet_add .nil pass0 (pa_cons (pe_tup (pa_cons pe_str (pa_cons (pe_ix (ix_tupK K) (pv 6) pe_int (fun _ _ => rfl)) (pa_cons (pe_ix (ix_tupK K) (pv 7) pe_int (fun _ _ => rfl)) pa_nil)))) pa_nil)))
      (pss_one (ps_expr (pe_bm PySem.F.plainAttrs_list PySem.F.slot_list_append PySem.F.type_list_append mt_append (pv 5) (pa_cons (pe_tup (pa_cons (pe_op op_add (pe_ix (ix_tupK K) (pv 6) pe_int (fun _ _ => rfl)) (pe_ix (ix_tupK K) (pv 7) pe_int (fun _ _ => rfl))) (pa_cons (pv 8) (pa_cons (pe_op op_mulI (pe_ix (ix_tupK K) (pv 6) pe_int (fun _ _ => rfl)) (pe_ix (ix_tupK K) (pv 7) pe_int (fun _ _ => rfl))) pa_nil)))) pa_nil))))) pss_nil)))))
      (pss_one (ps_ret (pv 5)))))))), ?_⟩
  try dsimp only [cxOf, Cx.nox, Cx.wish]
  simp only [L2.start, List.map_cons, List.map_nil, List.length_cons, List.length_nil, Nat.reduceAdd, Nat.reduceSub, List.replicate_succ, List.replicate_zero, List.cons_append, List.nil_append]
  obtain ⟨hp, M, hc, hn, hmany, hkind, h⟩ := h
  obtain ⟨C, dx, e1, c1⟩ := id M.P.fp
  obtain rfl := c1.one T.nc_Plan
  have k1 := T.cl_Plan
  have k2 := T.n_Plan_sheet
  have k3 := T.n_Plan_widths
  have k4 := T.cl_Sheet
  have b48 := M.b48
  rcases hkind with ⟨x, rfl⟩ | ⟨g, k, rfl⟩
  · have hp' : H p = some (.tup [.str "name", .str x]) := hp
    obtain ⟨w, hw, hwb, hwB⟩ := look_name M.has M.wdk M.ok M.fit
    have hcost : costF D S (.name x) = 168 := rfl
    walk_at "ws"
    refine ⟨pl, sh, r, d, sp, ov, wd, od, ns, rs, x, w, rfl, M.P, M.M, hw, hwb, by omega, fun q H1 nq hD hM1 f1 => ?_⟩
    walk_at "ws"
    have res := name_res (wd := wd) (R := rs) hw hwb.1
    have e2 : (fun ws : List (Str × Int) => worthF ws (.name x)) = fun ws => (lookW ws x).getD 0 := rfl
    rw [e2] at h
    refine h _ _ q H1 (res.part (by omega)) (Ext.app _ _) (name_rows M.W M.ok hw (by omega) _ (Nat.le_refl _)) (by rw [List.length_append, nameR_len, wordD_len, fromN_len]; omega) nq hD hM1 f1
  · obtain ⟨a, b, hp', ha, hb⟩ := id hp
    have hcost : costF D S (.times g k) = costF D S g + costF D S k + 2 * S + 7 * D := rfl
    have hsz : (Fm.times g k).size = g.size + k.size + 1 := rfl
    have gs := g.size_pos
    have ks := k.size_pos
    have hsz30 := M.sz
    walk_at "ws"
    have Mg : MkC K H pl sh r d ov sp wd od ns rs N B D S g := ⟨M.P, M.M, M.W, M.ok.1, M.fit.times.1, M.has, M.wdk, by omega, M.odl, M.b48, M.bd, M.bs⟩
    refine ⟨pl, sh, r, d, sp, a, ov, wd, od, ns, rs, N, B, D, S, g, rfl, ha, Mg, by omega, by omega, fun ds1 Ra q1 H1 w1 ea wa la nq1 hd1 hMa f1 => ?_⟩
    have tn : ∀ {X : Hp} {qs : List Row}, RowsM X r qs → ∀ {b : Addr} {zs : List V}, X b = some (.tup zs) → b ∉ [r] := fun hX b zs e m => rows_tup hX b m zs e
    have hp1 := f1 _ _ hp' (tn M.M hp')
    have hb1 : FmAt H1 b k := hb.keep fun q zs e => f1 _ _ e (tn M.M e)
    have Mk : MkC K H1 pl sh r d ov sp wd od ns Ra N B D S k := ⟨M.P.fr M.M f1 fun m hm => .inl (List.mem_singleton.mp hm), hMa, wa, M.ok.2, M.fit.times.2, M.has, M.wdk, by omega, M.odl, M.b48, M.bd, M.bs⟩
    walk_at "ws"
    refine ⟨pl, sh, r, d, sp, b, ov, wd, od, ns, Ra, N, B, D, S, k, rfl, hb1, Mk, by omega, by omega, fun ds2 Rb q2 H2 w2 eb wb lb nq2 hd2 hMb f2 => ?_⟩
    have q1r : q1 ≠ r := fun z => by
      obtain ⟨_, e, _⟩ := M.M
      rw [← z, nq1] at e
      cases e
    have hd1' := hd1.fr f2 (by simpa using q1r) (rows_tup hMa)
    have q2r : q2 ≠ r := fun z => by
      obtain ⟨_, e, _⟩ := hMa
      rw [← z, nq2] at e
      cases e
    walk_at "ws"
    rename_i D0 H3 nD s3 eD
    obtain ⟨ps1, eq1, hA1⟩ := hd1'.same s3
    obtain ⟨ps2, eq2, hA2⟩ := hd2.same s3
    have hMb3 := hMb.same s3
    have f03 : Fr [r] H H3 := (f1.trans f2).trans (Fr.of s3)
    have nD0 : H D0 = none := by
      cases e : H D0 with
      | none => rfl
      | some o =>
        by_cases z : D0 = r
        · obtain ⟨_, e2, _⟩ := hMb
          rw [← z, nD] at e2
          cases e2
        · have := (f1.trans f2) _ _ e (by simpa using z)
          rw [nD] at this
          cases this
    have Dr : D0 ≠ r := fun z => by
      obtain ⟨_, e, _⟩ := M.M
      rw [← z, nD0] at e
      cases e
    have Dq1 : q1 ≠ D0 := fun z => by
      obtain ⟨ps, e, _⟩ := hd1'
      rw [z, nD] at e
      cases e
    have Dq2 : q2 ≠ D0 := fun z => by
      obtain ⟨ps, e, _⟩ := hd2
      rw [z, nD] at e
      cases e
    have W1 := w1.ext eb
    have l1 : (ps1.map V.ref).length = ds1.length := DotsAt.len hA1
    have l2 : (ps2.map V.ref).length = ds2.length := DotsAt.len hA2
    have w1l := W1.len
    have w2l := w2.len
    have bd := M.bd
    have tD : ∀ {b : Addr} {zs : List V}, H3 b = some (.tup zs) → b ∉ [r, D0] := fun {b zs} e m => by
      rcases List.mem_cons.mp m with z | z
      · exact tn hMb3 e (by rw [z]; exact List.mem_cons_self ..)
      · rw [List.mem_singleton.mp z, eD] at e
        cases e
    have fin : ∀ {G : Hp}, Fr [r, D0] H3 G → Fr [r] H G := fun {G} fG bb o e n => fG _ _ (f03 _ _ e n) fun m => by
      rcases List.mem_cons.mp m with z | z
      · exact n (by rw [z]; exact List.mem_cons_self ..)
      · rw [List.mem_singleton.mp z, nD0] at e
        cases e
    walk_at "ws"
    refine for_l (ps1.map V.ref) (fun i σ' G => ∃ (R : List Row) (ds : List Dot) (y6 y7 y8 : Option V), σ' = [some (.ref pl), some (.ref p), some (.int (many : Int)), some (.ref q1), some (.ref q2), some (.ref D0), y6, y7, y8] ∧ Fr [r, D0] H3 G ∧ RowsM G r R ∧ DotsAt G D0 ds ∧ ds.length ≤ i * B ∧ ProdInv N wd Rb R ds many fun f => dotsV f (ds1.take i) * dotsV f ds2)
      ⟨Rb, [], _, _, _, rfl, Fr.refl, hMb3, ⟨[], eD, A2.nil⟩, Nat.zero_le _, (ProdInv.nil wb many).congr fun f => by rw [List.take_zero]; exact (Int.zero_mul _).symm⟩ (fun i σ' G _ q => ?_) (fun i x σ' G hx q => ?_) (fun σ' G q => ?_)
    · obtain ⟨R, ds, y6, y7, y8, rfl, fG, _⟩ := q
      exact SqL.of (fG _ _ eq1 (by simp only [List.mem_cons, List.not_mem_nil, or_false, not_or]; exact ⟨q1r, Dq1⟩))
    · obtain ⟨R0, ds0, y6, y7, y8, rfl, fG0, hM0, hD0, hl0, I0⟩ := q
      obtain ⟨pa, hpa, rfl⟩ := get_map hx
      obtain ⟨d1, hd1i, hda⟩ := hA1.get hpa
      have hi := (List.getElem?_eq_some_iff.mp hd1i).1
      have hda : H3 pa = some (.tup [.int (d1.k : Int), .int (d1.w : Int), .int d1.s]) := hda
      have ok1 := W1.ok d1 (List.mem_of_getElem? hd1i)
      have col1 := W1.col d1 (List.mem_of_getElem? hd1i)
      have eq2G0 := fG0 _ _ eq2 (by simp only [List.mem_cons, List.not_mem_nil, or_false, not_or]; exact ⟨q2r, Dq2⟩)
      have hiB : (i + 1) * B ≤ B * B := Nat.mul_le_mul_right _ (by omega)
      have hiB2 : (i + 1) * B = i * B + B := Nat.succ_mul ..
      walk_at "ws"
      refine for_l (ps2.map V.ref) (fun j σ' G => ∃ (R : List Row) (ds : List Dot) (y7 y8 : Option V), σ' = [some (.ref pl), some (.ref p), some (.int (many : Int)), some (.ref q1), some (.ref q2), some (.ref D0), some (.ref pa), y7, y8] ∧ Fr [r, D0] H3 G ∧ RowsM G r R ∧ DotsAt G D0 ds ∧ ds.length ≤ i * B + j ∧ ProdInv N wd Rb R ds many fun f => dotsV f (ds1.take i) * dotsV f ds2 + dotV f d1 * dotsV f (ds2.take j))
        ⟨R0, ds0, _, _, rfl, fG0, hM0, hD0, by omega, I0.congr fun f => by rw [List.take_zero]; show _ = _ + dotV f d1 * 0; omega⟩ (fun j σ' G _ q => ?_) (fun j x σ' G hx q => ?_) (fun σ' G q => ?_)
      · obtain ⟨R, ds, y7, y8, rfl, fG, _⟩ := q
        exact SqL.of (fG _ _ eq2 (by simp only [List.mem_cons, List.not_mem_nil, or_false, not_or]; exact ⟨q2r, Dq2⟩))
      · obtain ⟨R, ds, y7, y8, rfl, fG, hMG, hDG, hl, I⟩ := q
        obtain ⟨pb, hpb, rfl⟩ := get_map hx
        obtain ⟨d2, hd2j, hdb⟩ := hA2.get hpb
        have hj := (List.getElem?_eq_some_iff.mp hd2j).1
        have hdb : H3 pb = some (.tup [.int (d2.k : Int), .int (d2.w : Int), .int d2.s]) := hdb
        have ok2 := w2.ok d2 (List.mem_of_getElem? hd2j)
        have col2 := w2.col d2 (List.mem_of_getElem? hd2j)
        have hdaG := fG _ _ hda (tD hda)
        have hdbG := fG _ _ hdb (tD hdb)
        have PG := M.P.fr M.M (fin fG) fun m hm => .inl (List.mem_singleton.mp hm)
        obtain ⟨C, dxG, eG, cG⟩ := id PG.fp
        obtain rfl := cG.one T.nc_Plan
        obtain ⟨C, dsG, esG, csG⟩ := id PG.fs
        obtain rfl := csG.one T.nc_Sheet
        have hsz := I.size
        have tk := fun f => dotsV_take (f := f) hd2j
        have s1 := ok1.2
        have s2 := ok2.2
        have k1R : DotOk R d1 := ok1.ext I.ext
        have k2R : DotOk R d2 := ok2.ext I.ext
        walk_at "ws"
        · rename_i hlt g1 G1 ng1 sg1 eg1
          refine use_add (x := .bin .and d1.w d2.w) (PG.fs.same sg1) (hMG.same sg1) eg1 (by omega) fun G2 hs2 hM2 fr2 => ?_
          have hda2 := fr2 _ _ (sg1 _ _ hdaG) (tn (hMG.same sg1) (sg1 _ _ hdaG))
          have hdb2 := fr2 _ _ (sg1 _ _ hdbG) (tn (hMG.same sg1) (sg1 _ _ hdbG))
          obtain ⟨ps3, eD2, hA3⟩ := (hDG.same sg1).fr fr2 (by simpa using Dr) (rows_tup (hMG.same sg1))
          have hpl3 : (ps3.map V.ref).length = ds.length := DotsAt.len hA3
          walk_at "ws"
          rename_i g3 G3 ng3 sg3 eg3
          have eD3 := sg3 _ _ eD2
          have e3 : G3 g3 = some (.tup [.int ((d1.k + d2.k : Nat) : Int), .int (R.length : Int), .int (d1.s * d2.s)]) := eg3
          walk_at "ws"
          have f3 : Fr [r, D0] H3 G3 := ((fG.trans (Fr.of sg1)).trans (fr2.mono fun m hm => by rw [List.mem_singleton.mp hm]; exact List.mem_cons_self ..)).trans (Fr.of sg3)
          have I2 := I.put k1R k2R (by omega)
          refine ⟨_, _, _, _, rfl, f3.trans (Fr.put (List.mem_cons_of_mem _ (List.mem_cons_self ..))), rows_put (hM2.same sg3) Dr eD3, DotsAt.push (d := ⟨d1.k + d2.k, R.length, d1.s * d2.s⟩) eD3 (hA3.mono fun _ _ e => sg3 _ _ e) e3, by rw [List.length_append, List.length_singleton]; omega, I2.congr fun f => ?_⟩
          rw [tk f]
          grind
        · rename_i hge
          have I2 := I.skip (d1 := d1) (d2 := d2) (by omega)
          refine ⟨_, _, _, _, rfl, fG, hMG, hDG, by omega, I2.congr fun f => ?_⟩
          rw [tk f]
          grind
      · obtain ⟨R, ds, y7, y8, rfl, fG, hMG, hDG, hl, I⟩ := q
        rw [l2] at hl
        rw [l2, List.take_of_length_le (Nat.le_refl _)] at I
        refine ⟨R, ds, _, _, _, rfl, fG, hMG, hDG, by omega, I.congr fun f => ?_⟩
        rw [dotsV_take hd1i]
        grind
    · obtain ⟨R, ds, y6, y7, y8, rfl, fG, hMG, hDG, hl, I⟩ := q
      rw [l1] at hl
      rw [l1, List.take_of_length_le (Nat.le_refl _)] at I
      have hlB : ds1.length * B ≤ B * B := Nat.mul_le_mul_right _ w1l
      have hsz := I.size
      walk_at "ws"
      exact h ds R D0 G (I.res W1 w2) ((ea.trans eb).trans I.ext) I.rows (by omega) nD0 hDG hMG (fin fG)
theorem sum_addC (cols : List (List Nat)) (k w : Nat) : (lens (addC cols k w)).sum ≤ (lens cols).sum + 1 := by
  rw [lens_bump]
  exact sum_bump _ _
theorem partsV_take {ws : List (Str × Int)} {xs : List (Int × Fm)} {i : Nat} {x : Int × Fm} (h : xs[i]? = some x) : partsV ws (xs.take (i + 1)) = partsV ws (xs.take i) + x.1 * worthF ws x.2 := by
  rw [take_snoc h, partsV_app]
  unfold partsV
  simp
theorem partsC_take {D S : Nat} {xs : List (Int × Fm)} {i : Nat} {x : Int × Fm} (h : xs[i]? = some x) : partsC D S (xs.take (i + 1)) = partsC D S (xs.take i) + costF D S x.2 := by
  rw [take_snoc h, partsC_app]
  unfold partsC
  simp
theorem partsC_le {D S : Nat} {xs : List (Int × Fm)} {i : Nat} : partsC D S (xs.take i) ≤ partsC D S xs := by
  have e := List.take_append_drop i xs
  have : partsC D S xs = partsC D S (xs.take i) + partsC D S (xs.drop i) := by rw [← partsC_app, e]
  omega
theorem rec_bits_made (T : Top K mg) (n : Nat) (ih_bits_made : FnOk P w K mg base CX0 (73 + n) T.a_bits_made T.d_bits_made ["plan", "formula"] (sp_bits_made K n)) (ih_part_dots : FnOk P w K mg base CX0 (73 + n) T.a_part_dots T.d_part_dots ["plan", "formula", "many"] (sp_part_dots K n)) (ih_word_dots : FnOk P w K mg base CX0 (73 + n) T.a_word_dots T.d_word_dots ["plan", "formula"] (sp_word_dots K n)) : FnOk P w K mg base CX0 (73 + n + 1) T.a_bits_made T.d_bits_made ["plan", "formula"] (sp_bits_made K (n + 1)) := by
  refine T.f_bits_made.ok sc_bits_made (fun vs H Q E h => ?_) (fun cdv A outer s H vs Q E hr h => ?_)
  · obtain ⟨pl, sh, r, d, sp, p, ov, wd, od, ns, rs, N, B, D, S, f, rfl, _⟩ := h
    rfl
  obtain ⟨pl, sh, r, d, sp, p, ov, wd, od, ns, rs, N, B, D, S, f, rfl, h⟩ := h
  refine ⟨_, (pss_cons (ps_set (i := 2) sc_bits_made.nd rfl (.inl rfl) (pe_ix (ix_tupK K) (pe_call (ok_room_of T) (hr.mono (by omega)) (by rfl) T.g_room_of T.f_room_of.kp T.b_room_of .nil pass0 (pa_cons (pe_call (ok_span_of T) (hr.mono (by omega)) (by rfl) T.g_span_of T.f_span_of.kp T.b_span_of .nil pass0 (pa_cons (pv 1) (pa_cons (pe_fld (pv 0) rfl) pa_nil))) pa_nil)) pe_int (fun _ _ => rfl)))
      (pss_cons (ps_set (i := 3) sc_bits_made.nd rfl (.inl rfl) (pe_make T.mk_Heap (ok_Heap__init T) (hr.mono (by omega)) (by rfl) T.gc_Heap T.b_Heap__init .nil pass0 (pa_cons (pv 2) pa_nil)))
      (pss_cons (ps_set (i := 4) sc_bits_made.nd rfl (.inl rfl) pe_int)
      (pss_cons (ps_for PassesOwn.never rfl (pi_list (pe_call (ok_apart T) (hr.mono (by omega)) (by rfl) T.g_apart T.f_apart.kp T.b_apart .nil pass0 (pa_cons (pv 1) (pa_cons pe_int pa_nil)))) (pg_tup (by rfl) (pgs_cons (pg_name (i := 5) sc_bits_made.nd rfl (.inl rfl)) (pgs_cons (pg_name (i := 6) sc_bits_made.nd rfl (.inl rfl)) pgs_nil)))
      (pss_one (ps_if (pt_cmpR op_eq (pe_ix (ix_tupK K) (pv 6) pe_int (fun _ _ => rfl)) pe_str (nomark _)) (pss_one (ps_aug (i := 4) sc_bits_made.nd rfl (.inl rfl) (pe_op op_mulI (pv 5) (pe_ix (ix_tupK K) (pv 6) pe_int (fun _ _ => rfl))) ip_add)) (pss_one (ps_for PassesOwn.never rfl (pi_list (pe_call ih_part_dots hr (by rfl) T.g_part_dots T.f_part_dots.kp T.b_part_dots .nil pass0 (pa_cons (pv 0) (pa_cons (pv 6) (pa_cons (pv 2) pa_nil))))) (pg_tup (by rfl) (pgs_cons (pg_name (i := 7) sc_bits_made.nd rfl (.inl rfl)) (pgs_cons (pg_name (i := 8) sc_bits_made.nd rfl (.inl rfl)) (pgs_cons (pg_name (i := 9) sc_bits_made.nd rfl (.inl rfl)) pgs_nil))))
      (pss_one (ps_if (pt_cmpR op_gt (pe_op op_mulI (pv 5) (pv 9)) pe_int (nomark _)) (pss_one (ps_expr (pe_meth (pv 3) T.cl_Heap T.m_Heap_put (ok_Heap_put T) (hr.mono (by omega)) T.b_Heap_put .nil pass0 (pa_cons (pv 7) (pa_cons (pv 8) pa_nil))))) (pss_cons (ps_expr (pe_meth (pv 3) T.cl_Heap T.m_Heap_put (ok_Heap_put T) (hr.mono (by omega)) T.b_Heap_put .nil pass0 (pa_cons (pv 7) (pa_cons (pe_meth (pe_fld (pv 0) rfl) T.cl_Sheet T.m_Sheet_add (ok_Sheet_add T) (hr.mono (by omega)) T.b_Sheet_add .nil pass0 (pa_cons (pe_tup (pa_cons pe_str (pa_cons (pv 8) pa_nil))) pa_nil)) pa_nil))))
      (pss_one (ps_aug (i := 4) sc_bits_made.nd rfl (.inl rfl) (pe_op op_shlK pe_int (pv 7)) ip_sub))))))))))
      (pss_cons (ps_for PassesOwn.never rfl (pi_range1 (by rfl) T.z_range (pa_cons (pv 2) pa_nil)) (pg_name (i := 10) sc_bits_made.nd rfl (.inl rfl))
      (pss_one (ps_if (pt_cmpR op_eq (pe_op op_bit1 (pe_op op_shrK (pv 4) (pv 10)) pe_int) pe_int (nomark _)) (pss_one (ps_expr (pe_meth (pv 3) T.cl_Heap T.m_Heap_put (ok_Heap_put T) (hr.mono (by omega)) T.b_Heap_put .nil pass0 (pa_cons (pv 10) (pa_cons (pe_meth (pe_fld (pv 0) rfl) T.cl_Sheet T.m_Sheet_add (ok_Sheet_add T) (hr.mono (by omega)) T.b_Sheet_add .nil pass0 (pa_cons (pe_tup (pa_cons pe_str (pa_cons pe_int pa_nil))) pa_nil)) pa_nil))))) pss_nil)))
      (pss_one (ps_ret (pe_meth (pv 0) T.cl_Plan T.m_Plan_finished (ok_Plan_finished T) (hr.mono (by omega)) T.b_Plan_finished .nil pass0 (pa_cons (pv 3) pa_nil))))))))), ?_⟩
  try dsimp only [cxOf, Cx.nox, Cx.wish]
  simp only [L2.start, List.map_cons, List.map_nil, List.length_cons, List.length_nil, Nat.reduceAdd, Nat.reduceSub, List.replicate_succ, List.replicate_zero, List.cons_append, List.nil_append]
  obtain ⟨hp, M, hc, hn, h⟩ := h
  obtain ⟨C, dx, e1, c1⟩ := id M.P.fp
  obtain rfl := c1.one T.nc_Plan
  have k1 := T.cl_Plan
  have k2 := T.n_Plan_sheet
  have k3 := T.n_Plan_widths
  have k4 := T.cl_Sheet
  have k5 := T.cl_Heap
  have ed := M.P.fw
  have b48 := M.b48
  have sz := M.sz
  obtain ⟨m, b, hr, hmB⟩ := M.room
  walk_at "ws"
  refine ⟨p, d, f, wd, N, rfl, hp, ed, M.ok, M.has, M.wdk, by omega, by omega, fun q1 H1 n1 s1 eq1 => ?_⟩
  walk_at "ws"
  refine ⟨q1, _, _, rfl, SqT.of eq1, fun q2 H2 n2 s2 eq2 => ?_⟩
  rw [hr.eq] at eq2
  dsimp only at eq2
  walk_at "ws"
  rename_i he dh H3 n3 nd3 s3 e3
  have s03 := (s1.trans s2).trans s3
  have nhe : H he = none := (s1.trans s2).free n3
  refine ⟨he, T.c_Heap, dh, m, rfl, e3, T.nc_Heap, by omega, fun c pcs H4 nc np ha4 f4 => ⟨rfl, ?_⟩⟩
  have nc0 : H c = none := s03.free nc
  have np0 : ∀ q ∈ pcs, H q = none := fun q mq => s03.free (np q mq)
  have f04 : Fr [r] H H4 := fun bb o e _ => f4 _ _ (s03 _ _ e) fun z => by rw [List.mem_singleton.mp z, nhe] at e; cases e
  have S04 : Same H H4 := fun bb o e => f4 _ _ (s03 _ _ e) fun z => by rw [List.mem_singleton.mp z, nhe] at e; cases e
  have hM4 := M.M.same S04
  obtain ⟨_, eMr, _⟩ := id M.M
  have rps : r ∉ pcs := fun z => by rw [np0 r z] at eMr; cases eMr
  have rc : r ≠ c := fun z => by rw [z, nc0] at eMr; cases eMr
  have her : he ≠ r := fun z => by rw [← z, nhe] at eMr; cases eMr
  walk_at "ws"
  refine ⟨p, 1, f, rfl, hp.same S04, by omega, by omega, fun q5 H5 nq5 hq5 s5 => ?_⟩
  have S05 := S04.trans s5
  have ha5 := ha4.same s5
  have hM5 := hM4.same s5
  have hxl : (apartF f 1).length ≤ f.size := apart_len f 1
  have hxc : partsC D S (apartF f 1) = costF D S f := apart_cost D S f 1
  have hxv := fun ws => apart_val ws f 1
  have hxp := apart_piece f 1 (.inl rfl) M.ok M.fit
  generalize apartF f 1 = xs at *
  obtain ⟨pp, eq5, hA5⟩ := hq5
  have lpp : (pp.map V.ref).length = xs.length := by rw [List.length_map, hA5.1]
  have nq50 : H q5 = none := S04.free nq5
  have q5r : q5 ≠ r := fun z => by rw [← z, nq50] at eMr; cases eMr
  have q5c : q5 ≠ c := fun z => by
    have e := ha4.2.1
    rw [← z, nq5] at e
    cases e
  have q5p : q5 ∉ pcs := fun z => by
    obtain ⟨_, e⟩ := ha4.2.at z
    rw [nq5] at e
    cases e
  have f05 : Fr [r] H H5 := Fr.of S05
  have hps5 : ∀ q ∈ pcs, ∃ us, H5 q = some (.lst us) := fun q mq => by
    obtain ⟨us, e⟩ := ha5.2.at mq
    exact ⟨_, e⟩
  have tup5 : ∀ {bb : Addr} {us : List V}, H5 bb = some (.tup us) → bb ∉ r :: pcs := fun {bb us} e mm => by
    rcases List.mem_cons.mp mm with z | z
    · exact rows_tup hM5 r (List.mem_cons_self ..) us (by rw [← z]; exact e)
    · obtain ⟨vs, e2⟩ := hps5 bb z
      rw [e2] at e
      cases e
  have fin : ∀ {G : Hp}, Fr (r :: pcs) H5 G → Fr [r] H G := fun {G} fG bb o e nb => fG _ _ (S05 _ _ e) fun mm => by
    rcases List.mem_cons.mp mm with z | z
    · exact nb (by rw [z]; exact List.mem_cons_self ..)
    · rw [np0 bb z] at e
      cases e
  have hxc' : ∀ i, partsC D S (xs.take i) ≤ costF D S f := fun i => by rw [← hxc]; exact partsC_le
  have ord : ∀ o, ov = .ref o → o ∉ pcs := fun o eo mm => by
    have := M.P.fo
    rw [eo] at this
    cases hod : od with
    | none => rw [hod] at this; cases this
    | some l =>
      rw [hod] at this
      obtain ⟨o', e1, e2, _⟩ := this
      cases e1
      rw [np0 o mm] at e2
      cases e2
  have spp : sp ∉ pcs := fun mm => by
    have e := M.P.fsp
    rw [np0 sp mm] at e
    cases e
  walk_at "ws"
  refine for_lg (pp.map V.ref) (fun i σ' G => ∃ (R : List Row) (cols : List (List Nat)) (bs : Int) (y5 y6 y7 y8 y9 y10 : Option V), σ' = [some (.ref pl), some (.ref p), some (.int (m : Int)), some (.ref he), some (.int bs), y5, y6, y7, y8, y9, y10] ∧ Fr (r :: pcs) H5 G ∧ HeapAt K G he c pcs cols ∧ RowsM G r R ∧ HInv N wd rs R cols m bs (fun ws _ => partsV ws (xs.take i)) ∧ R.length + 5 * (lens cols).sum ≤ rs.length + partsC D S (xs.take i))
    ⟨rs, List.replicate m [], 0, _, _, _, _, _, _, rfl, Fr.refl, ha5, hM5, HInv.nil M.W m, ?_⟩ (fun i σ' G _ q => ?_) (fun i x σ' G hx q => ?_) (fun σ' G q => ?_)
  · have : (lens (List.replicate m ([] : List Nat))).sum = 0 := by
      unfold lens
      rw [List.map_replicate]
      show (List.replicate m 0).sum = 0
      rw [List.sum_replicate_nat]
      omega
    omega
  · obtain ⟨R, cols, bs, y5, y6, y7, y8, y9, y10, rfl, fG, _⟩ := q
    exact SqL.of (fG _ _ eq5 (by simp only [List.mem_cons, not_or]; exact ⟨q5r, q5p⟩))
  · obtain ⟨R, cols, bs, y5, y6, y7, y8, y9, y10, rfl, fG, haG, hMG, I, hcost⟩ := q
    obtain ⟨pa, hpa, rfl⟩ := get_map hx
    obtain ⟨x, hxi, hxa⟩ := hA5.get hpa
    obtain ⟨fp, epa, hfp⟩ := hxa
    have epaG := fG _ _ epa (tup5 epa)
    have hfpG : FmAt G fp x.2 := hfp.keep fun _ _ e => fG _ _ e (tup5 e)
    have X := hxp x (List.mem_of_getElem? hxi)
    have xsg := X.sg
    have xsz := X.size
    obtain ⟨s, g⟩ := x
    have hCt := partsC_take (D := D) (S := S) hxi
    have hVt := fun ws => partsV_take (ws := ws) hxi
    have hci := hxc' (i + 1)
    dsimp only at *
    obtain ⟨us, eus⟩ := hfpG.head
    walk_at "ws"
    refine w_ixT (SqT.of eus) at_0 ?_
    walk_at "ws"
    · rename_i e
      obtain ⟨v, rfl⟩ := headF_num e
      have hv : 0 ≤ v ∧ v ≤ 1000000000000 := X.ok
      have hfp' : G fp = some (.tup [.str "number", .int v]) := hfpG
      have c0 : costF D S (.num v) = 0 := rfl
      walk_at "ws"
      exact ⟨R, cols, _, _, _, _, _, _, _, rfl, fG, haG, hMG, (I.num (s * v)).congr fun ws _ => (hVt ws).symm, by omega⟩
    · rename_i e
      have hkind : (∃ x, g = .name x) ∨ ∃ g1 h1, g = .times g1 h1 := by
        rcases X.kind with z | z | z
        · exact .inl z
        · obtain ⟨v, rfl⟩ := z
          exact absurd rfl e
        · exact .inr z
      have PG := M.P.fr M.M (fin fG) fun mm hm => .inl (List.mem_singleton.mp hm)
      have MG : MkC K G pl sh r d ov sp wd od ns R N B D S g := ⟨PG, hMG, I.rows, X.ok, X.fit, M.has, M.wdk, by omega, M.odl, M.b48, M.bd, M.bs⟩
      walk_at "ws"
      refine ⟨pl, sh, r, d, sp, fp, ov, wd, od, ns, R, N, B, D, S, m, g, rfl, hfpG, MG, by omega, by omega, by omega, hkind, fun ds R1 q6 H6 pr er wr lr nq6 hd6 hM6 f6 => ?_⟩
      obtain ⟨pd, eq6, hA6⟩ := hd6
      have ha6 := haG.fr f6 (by simpa using her) (by simpa using rc.symm) (fun q mq z => rps (by rw [← List.mem_singleton.mp z]; exact mq))
      have I1 := I.grow er wr
      have lpd : (pd.map V.ref).length = ds.length := DotsAt.len hA6
      have q6n : q6 ∉ r :: pcs := fun mm => by
        rcases List.mem_cons.mp mm with z | z
        · obtain ⟨_, e2, _⟩ := hMG
          rw [← z, nq6] at e2
          cases e2
        · obtain ⟨_, e2⟩ := haG.2.at z
          rw [nq6] at e2
          cases e2
      have tup6 : ∀ {bb : Addr} {us : List V}, H6 bb = some (.tup us) → bb ∉ r :: pcs := fun {bb us} e mm => by
        rcases List.mem_cons.mp mm with z | z
        · exact rows_tup hM6 r (List.mem_cons_self ..) us (by rw [← z]; exact e)
        · obtain ⟨vs, e2⟩ := ha6.2.at z
          rw [e2] at e
          cases e
      have f56 : Fr (r :: pcs) H5 H6 := fG.trans (f6.mono fun mm hm => by rw [List.mem_singleton.mp hm]; exact List.mem_cons_self ..)
      walk_at "ws"
      refine for_lg (pd.map V.ref) (fun j σ' G2 => ∃ (R2 : List Row) (cols2 : List (List Nat)) (bs2 : Int) (y7 y8 y9 : Option V), σ' = [some (.ref pl), some (.ref p), some (.int (m : Int)), some (.ref he), some (.int bs2), some (.int s), some (.ref fp), y7, y8, y9, y10] ∧ Fr (r :: pcs) H6 G2 ∧ HeapAt K G2 he c pcs cols2 ∧ RowsM G2 r R2 ∧ HInv N wd rs R2 cols2 m bs2 (fun ws ff => partsV ws (xs.take i) + s * dotsV ff (ds.take j)) ∧ Ext R1 R2 ∧ R2.length + 5 * (lens cols2).sum ≤ R1.length + 5 * (lens cols).sum + 6 * j)
        ⟨R1, cols, bs, _, _, _, rfl, Fr.refl, ha6, hM6, I1.congr fun ws ff => by rw [List.take_zero]; show _ = _ + s * 0; omega, Ext.refl _, by omega⟩ (fun j σ' G2 _ q => ?_) (fun j x σ' G2 hx q => ?_) (fun σ' G2 q => ?_)
      · obtain ⟨R2, cols2, bs2, y7, y8, y9, rfl, fG2, _⟩ := q
        exact SqL.of (fG2 _ _ eq6 q6n)
      · obtain ⟨R2, cols2, bs2, y7, y8, y9, rfl, fG2, ha2, hM2, I2, e12, hc2⟩ := q
        obtain ⟨pdot, hpd, rfl⟩ := get_map hx
        obtain ⟨dd, hdj, hda⟩ := hA6.get hpd
        have hj := (List.getElem?_eq_some_iff.mp hdj).1
        have hda : H6 pdot = some (.tup [.int (dd.k : Int), .int (dd.w : Int), .int dd.s]) := hda
        have hda2 := fG2 _ _ hda (tup6 hda)
        have okd := (pr.ok dd (List.mem_of_getElem? hdj)).ext e12
        have okd2 := okd.2
        have cold := pr.col dd (List.mem_of_getElem? hdj)
        have tk := fun ff => dotsV_take (f := ff) hdj
        have hl2 : ∀ ys ∈ cols2, ys.length ≤ 700000 := fun ys my => by have := lens_le my; omega
        have sumb := fun w => sum_addC cols2 dd.k w
        obtain ⟨C, dh2, eh2, ch2⟩ := id ha2.1
        obtain rfl := ch2.one T.nc_Heap
        have P2 := M.P.fr M.M (fin (f56.trans fG2)) fun mm hm => .inl (List.mem_singleton.mp hm)
        obtain ⟨C, dx2, e2, cc2⟩ := id P2.fp
        obtain rfl := cc2.one T.nc_Plan
        obtain ⟨C, ds2, es2, cs2⟩ := id P2.fs
        obtain rfl := cs2.one T.nc_Sheet
        walk_at "ws"
        · rename_i hgt
          have hs1 : s * dd.s = 1 := by rcases xsg with u | u <;> rcases okd2 with v | v <;> rw [u, v] at hgt ⊢ <;> first | rfl | exact absurd hgt (by decide)
          refine ⟨he, c, pcs, cols2, dd.k, dd.w, rfl, ha2, hl2, fun H7 ha7 f7 => ?_⟩
          have sb := sumb dd.w
          refine ⟨R2, _, bs2, _, _, _, rfl, fG2.trans (f7.mono fun mm hm => List.mem_cons_of_mem _ hm), ha7, hM2.fr f7 rps (fun q x mm k => ?_), (I2.pos okd hs1).congr fun ws ff => ?_, e12, by omega⟩
          · obtain ⟨_, e9⟩ := ha2.2.at mm
            rw [show G2 q = _ from k] at e9
            cases e9
          · rw [tk ff]
            grind
        · rename_i hgt g1 G3 n3' s3' e3'
          have hs1 : s * dd.s = -1 := by rcases xsg with u | u <;> rcases okd2 with v | v <;> rw [u, v] at hgt ⊢ <;> first | rfl | exact absurd (by decide) hgt
          have hM3 := hM2.same s3'
          refine use_add (x := .inv dd.w) (P2.fs.same s3') hM3 e3' (by omega) fun G4 hs4 hM4' f4' => ?_
          have ha4' := (ha2.same s3').fr f4' (by simpa using her) (by simpa using rc.symm) (fun q mq z => rps (by rw [← List.mem_singleton.mp z]; exact mq))
          walk_at "ws"
          refine ⟨he, c, pcs, cols2, dd.k, R2.length, rfl, ha4', hl2, fun H7 ha7 f7 => ?_⟩
          have sb := sumb R2.length
          walk_at "ws"
          refine ⟨R2 ++ [.inv dd.w], _, _, _, _, _, rfl, ((fG2.trans (Fr.of s3')).trans (f4'.mono fun mm hm => by rw [List.mem_singleton.mp hm]; exact List.mem_cons_self ..)).trans (f7.mono fun mm hm => List.mem_cons_of_mem _ hm), ha7, hM4'.fr f7 rps (fun q x mm k => ?_), (I2.neg okd hs1).congr fun ws ff => ?_, e12.trans (Ext.app _ _), by rw [List.length_append, List.length_singleton]; omega⟩
          · obtain ⟨_, e9⟩ := ha4'.2.at mm
            rw [show G4 q = _ from k] at e9
            cases e9
          · rw [tk ff]
            grind
      · obtain ⟨R2, cols2, bs2, y7, y8, y9, rfl, fG2, ha2, hM2, I2, e12, hc2⟩ := q
        rw [lpd, List.take_of_length_le (Nat.le_refl _)] at I2
        rw [lpd] at hc2
        refine ⟨R2, cols2, bs2, _, _, _, _, _, _, rfl, f56.trans fG2, ha2, hM2, (I2.fin pr e12).congr fun ws _ => (hVt ws).symm, by omega⟩
  · obtain ⟨R, cols, bs, y5, y6, y7, y8, y9, y10, rfl, fG, haG, hMG, I, hcost⟩ := q
    rw [lpp, List.take_of_length_le (Nat.le_refl _)] at I hcost
    rw [hxc] at hcost
    have I := I.congr (T' := fun ws _ => worthF ws f) fun ws _ => by rw [hxv, Int.one_mul]
    walk_at "ws"
    refine for_r (fun k σ' G2 => ∃ (R2 : List Row) (cols2 : List (List Nat)) (y10 : Option V), σ' = [some (.ref pl), some (.ref p), some (.int (m : Int)), some (.ref he), some (.int bs), y5, y6, y7, y8, y9, y10] ∧ Fr (r :: pcs) H5 G2 ∧ HeapAt K G2 he c pcs cols2 ∧ RowsM G2 r R2 ∧ HInv N wd rs R2 cols2 m (bs - bs % 2 ^ k) (fun ws _ => worthF ws f) ∧ R2.length + 5 * (lens cols2).sum ≤ rs.length + costF D S f + 6 * k)
      ⟨R, cols, _, rfl, fG, haG, hMG, by rw [Int.pow_zero, Int.emod_one, Int.sub_zero]; exact I, by omega⟩ (fun k σ' G2 hk q => ?_) (fun σ' G2 q => ?_)
    · obtain ⟨R2, cols2, y10, rfl, fG2, ha2, hM2, I2, hc2⟩ := q
      have hk : k < m := hk
      have hl2 : ∀ ys ∈ cols2, ys.length ≤ 700000 := fun ys my => by have := lens_le my; omega
      have sb := sum_addC cols2 k R2.length
      obtain ⟨C, dh2, eh2, ch2⟩ := id ha2.1
      obtain rfl := ch2.one T.nc_Heap
      have P2 := M.P.fr M.M (fin fG2) fun mm hm => .inl (List.mem_singleton.mp hm)
      obtain ⟨C, dx2, e2, cc2⟩ := id P2.fp
      obtain rfl := cc2.one T.nc_Plan
      obtain ⟨C, ds2, es2, cs2⟩ := id P2.fs
      obtain rfl := cs2.one T.nc_Sheet
      walk_at "ws"
      · rename_i hb g1 G3 n3' s3' e3'
        have hM3 := hM2.same s3'
        refine use_add (x := .fix 1) (P2.fs.same s3') hM3 e3' (by omega) fun G4 hs4 hM4' f4' => ?_
        have ha4' := (ha2.same s3').fr f4' (by simpa using her) (by simpa using rc.symm) (fun q mq z => rps (by rw [← List.mem_singleton.mp z]; exact mq))
        walk_at "ws"
        refine ⟨he, c, pcs, cols2, k, R2.length, rfl, ha4', hl2, fun H7 ha7 f7 => ?_⟩
        refine ⟨R2 ++ [.fix 1], _, _, rfl, ((fG2.trans (Fr.of s3')).trans (f4'.mono fun mm hm => by rw [List.mem_singleton.mp hm]; exact List.mem_cons_self ..)).trans (f7.mono fun mm hm => List.mem_cons_of_mem _ hm), ha7, hM4'.fr f7 rps (fun q x mm kk => ?_), I2.bit1 hb, by rw [List.length_append, List.length_singleton]; omega⟩
        obtain ⟨_, e9⟩ := ha4'.2.at mm
        rw [show G4 q = _ from kk] at e9
        cases e9
      · rename_i hb
        exact ⟨R2, cols2, _, rfl, fG2, ha2, hM2, I2.bit0 hb, by omega⟩
    · obtain ⟨R2, cols2, y10, rfl, fG2, ha2, hM2, I2, hc2⟩ := q
      rw [Int.toNat_natCast] at I2 hc2
      have I3 := I2.done
      have hcl := I3.len
      obtain ⟨C, dh2, eh2, ch2⟩ := id ha2.1
      obtain rfl := ch2.one T.nc_Heap
      have P2 := M.P.fr M.M (fin fG2) fun mm hm => .inl (List.mem_singleton.mp hm)
      obtain ⟨C, dx2, e2, cc2⟩ := id P2.fp
      obtain rfl := cc2.one T.nc_Plan
      have bs0 := M.bs
      have mB : 3 * m * m ≤ 3 * B * B := Nat.mul_le_mul (Nat.mul_le_mul_left 3 hmB) hmB
      walk_at "ws"
      refine ⟨pl, sh, r, d, sp, he, c, ov, wd, od, ns, pcs, cols2, R2, N, rfl, P2, ha2, hM2, rps, rc, ord, spp, M.odl, by omega, by omega, by omega, I3.rows.ok, I3.rows.nl, I3.dots, by omega, fun ks rs2 cols3 outs R3 q8 H8 nq8 ch O hout hM8 f8 => ?_⟩
      have mo := made_ok I3 ch O
      have cl := ch.len
      have cs := ch.sum
      have ol := O.2.2.2.2.2.1.1
      rw [cl.2, hcl] at ol
      have nq80 : H q8 = none := by
        cases e : H q8 with
        | none => rfl
        | some o =>
          by_cases z : q8 = r
          · obtain ⟨_, e2, _⟩ := hM2
            rw [← z, nq8] at e2
            cases e2
          · have := fin fG2 _ _ e (by simpa using z)
            rw [nq8] at this
            cases this
      exact h outs R3 m b q8 H8 hr mo (by omega) nq80 hout hM8 (fin (fG2.trans f8))
theorem all_bits_made (T : Top K mg) : ∀ n : Nat, FnOk P w K mg base CX0 (73 + n) T.a_bits_made T.d_bits_made ["plan", "formula"] (sp_bits_made K n) ∧ FnOk P w K mg base CX0 (73 + n) T.a_part_dots T.d_part_dots ["plan", "formula", "many"] (sp_part_dots K n) ∧ FnOk P w K mg base CX0 (73 + n) T.a_word_dots T.d_word_dots ["plan", "formula"] (sp_word_dots K n)
  | 0 => ⟨T.f_bits_made.ok (k := 72) sc_bits_made (fun _ _ _ _ h => (no_bits_made h).elim) (fun _ _ _ _ _ _ _ _ _ h => (no_bits_made h).elim), T.f_part_dots.ok (k := 72) sc_part_dots (fun _ _ _ _ h => (no_part_dots h).elim) (fun _ _ _ _ _ _ _ _ _ h => (no_part_dots h).elim), T.f_word_dots.ok (k := 72) sc_word_dots (fun _ _ _ _ h => (no_word_dots h).elim) (fun _ _ _ _ _ _ _ _ _ h => (no_word_dots h).elim)⟩
  | n + 1 => ⟨rec_bits_made T n (all_bits_made T n).1 (all_bits_made T n).2.1 (all_bits_made T n).2.2, rec_part_dots T n (all_bits_made T n).1 (all_bits_made T n).2.1 (all_bits_made T n).2.2, rec_word_dots T n (all_bits_made T n).1 (all_bits_made T n).2.1 (all_bits_made T n).2.2⟩
theorem ok_bits_made (T : Top K mg) : FnOk P w K mg base CX0 169 T.a_bits_made T.d_bits_made ["plan", "formula"] (sp_bits_made K 96) := (all_bits_made T 96).1
theorem ok_part_dots (T : Top K mg) : FnOk P w K mg base CX0 169 T.a_part_dots T.d_part_dots ["plan", "formula", "many"] (sp_part_dots K 96) := (all_bits_made T 96).2.1
theorem ok_word_dots (T : Top K mg) : FnOk P w K mg base CX0 169 T.a_word_dots T.d_word_dots ["plan", "formula"] (sp_word_dots K 96) := (all_bits_made T 96).2.2

/-! a formula's own parts -/
def kids : Fm → List Fm
  | .name _ => []
  | .num _ => []
  | .turned f => [f]
  | .plus f g => [f, g]
  | .less f g => [f, g]
  | .times f g => [f, g]
def leafB : Fm → Bool
  | .name _ => true
  | .num _ => true
  | _ => false
theorem leaf_in (f : Fm) : inV (.str (headF f)) [V.str "name", V.str "number"] = leafB f := by
  cases f with
  | name n => show inV (.str "name") [V.str "name", V.str "number"] = true; decide +kernel
  | num n => show inV (.str "number") [V.str "name", V.str "number"] = true; decide +kernel
  | turned f => show inV (.str "turned") [V.str "name", V.str "number"] = false; decide +kernel
  | plus f g => show inV (.str "plus") [V.str "name", V.str "number"] = false; decide +kernel
  | less f g => show inV (.str "less") [V.str "name", V.str "number"] = false; decide +kernel
  | times f g => show inV (.str "times") [V.str "name", V.str "number"] = false; decide +kernel
theorem FmAt.kids {H : Hp} {p : Addr} {f : Fm} (h : FmAt H p f) (hl : leafB f = false) : ∃ ks : List Addr, H p = some (.tup (.str (headF f) :: ks.map V.ref)) ∧ A2 (FmAt H) ks (Dpr.kids f) := by
  cases f with
  | name n => cases hl
  | num n => cases hl
  | turned f => obtain ⟨a, h1, h2⟩ := h; exact ⟨[a], h1, A2.nil.snoc h2⟩
  | plus f g => obtain ⟨a, b, h1, h2, h3⟩ := h; exact ⟨[a, b], h1, (A2.nil.snoc h2).snoc h3⟩
  | less f g => obtain ⟨a, b, h1, h2, h3⟩ := h; exact ⟨[a, b], h1, (A2.nil.snoc h2).snoc h3⟩
  | times f g => obtain ⟨a, b, h1, h2, h3⟩ := h; exact ⟨[a, b], h1, (A2.nil.snoc h2).snoc h3⟩
theorem kid_size {f k : Fm} (h : k ∈ kids f) : k.size < f.size := by
  cases f with
  | name n => cases h
  | num n => cases h
  | turned f => rw [List.mem_singleton.mp h]; exact Nat.lt_succ_self _
  | plus f g => rcases List.mem_cons.mp h with e | e; (rw [e]; show f.size < f.size + g.size + 1; omega); (rw [List.mem_singleton.mp e]; show g.size < f.size + g.size + 1; omega)
  | less f g => rcases List.mem_cons.mp h with e | e; (rw [e]; show f.size < f.size + g.size + 1; omega); (rw [List.mem_singleton.mp e]; show g.size < f.size + g.size + 1; omega)
  | times f g => rcases List.mem_cons.mp h with e | e; (rw [e]; show f.size < f.size + g.size + 1; omega); (rw [List.mem_singleton.mp e]; show g.size < f.size + g.size + 1; omega)
theorem kids_len (f : Fm) : (kids f).length ≤ 2 := by cases f <;> exact Nat.le_of_ble_eq_true rfl
theorem kid_ok {N : Str → Prop} {f k : Fm} (ok : FmOk N f) (h : k ∈ kids f) : FmOk N k := by
  cases f with
  | name n => cases h
  | num n => cases h
  | turned f => rw [List.mem_singleton.mp h]; exact ok
  | plus f g => rcases List.mem_cons.mp h with e | e; (rw [e]; exact ok.1); (rw [List.mem_singleton.mp e]; exact ok.2)
  | less f g => rcases List.mem_cons.mp h with e | e; (rw [e]; exact ok.1); (rw [List.mem_singleton.mp e]; exact ok.2)
  | times f g => rcases List.mem_cons.mp h with e | e; (rw [e]; exact ok.1); (rw [List.mem_singleton.mp e]; exact ok.2)
theorem parts_kids (f : Fm) : partsF f = f :: ((kids f).map partsF).flatten := by
  cases f with
  | name n => rfl
  | num n => rfl
  | turned f => show .turned f :: partsF f = .turned f :: (partsF f ++ []); rw [List.append_nil]
  | plus f g => show .plus f g :: (partsF f ++ partsF g) = .plus f g :: (partsF f ++ (partsF g ++ [])); rw [List.append_nil]
  | less f g => show .less f g :: (partsF f ++ partsF g) = .less f g :: (partsF f ++ (partsF g ++ [])); rw [List.append_nil]
  | times f g => show .times f g :: (partsF f ++ partsF g) = .times f g :: (partsF f ++ (partsF g ++ [])); rw [List.append_nil]
def namesF : Fm → List Str
  | .name n => [n]
  | .num _ => []
  | .turned f => namesF f
  | .plus f g => namesF f ++ namesF g
  | .less f g => namesF f ++ namesF g
  | .times f g => namesF f ++ namesF g
theorem names_kids (f : Fm) (hl : leafB f = false) : namesF f = ((kids f).map namesF).flatten := by
  cases f with
  | name n => cases hl
  | num n => cases hl
  | turned f => show namesF f = namesF f ++ []; rw [List.append_nil]
  | plus f g => show namesF f ++ namesF g = namesF f ++ (namesF g ++ []); rw [List.append_nil]
  | less f g => show namesF f ++ namesF g = namesF f ++ (namesF g ++ []); rw [List.append_nil]
  | times f g => show namesF f ++ namesF g = namesF f ++ (namesF g ++ []); rw [List.append_nil]
theorem ok_names {N : Str → Prop} : ∀ {f : Fm}, FmOk N f → FmOk (· ∈ namesF f) f
  | .name n, _ => List.mem_cons_self ..
  | .num n, h => h
  | .turned f, h => ok_names (f := f) h
  | .plus f g, h => ⟨(ok_names h.1).mono fun n m => List.mem_append_left _ m, (ok_names h.2).mono fun n m => List.mem_append_right _ m⟩
  | .less f g, h => ⟨(ok_names h.1).mono fun n m => List.mem_append_left _ m, (ok_names h.2).mono fun n m => List.mem_append_right _ m⟩
  | .times f g, h => ⟨(ok_names h.1).mono fun n m => List.mem_append_left _ m, (ok_names h.2).mono fun n m => List.mem_append_right _ m⟩
theorem name_part {n : Str} : ∀ {f : Fm}, n ∈ namesF f → Fm.name n ∈ partsF f
  | .name m, h => by rw [List.mem_singleton.mp h]; exact List.mem_cons_self ..
  | .num m, h => by cases h
  | .turned f, h => List.mem_cons_of_mem _ (name_part (f := f) h)
  | .plus f g, h => List.mem_cons_of_mem _ (by
    rcases List.mem_append.mp (show n ∈ namesF f ++ namesF g from h) with z | z
    · exact List.mem_append_left _ (name_part z)
    · exact List.mem_append_right _ (name_part z))
  | .less f g, h => List.mem_cons_of_mem _ (by
    rcases List.mem_append.mp (show n ∈ namesF f ++ namesF g from h) with z | z
    · exact List.mem_append_left _ (name_part z)
    · exact List.mem_append_right _ (name_part z))
  | .times f g, h => List.mem_cons_of_mem _ (by
    rcases List.mem_append.mp (show n ∈ namesF f ++ namesF g from h) with z | z
    · exact List.mem_append_left _ (name_part z)
    · exact List.mem_append_right _ (name_part z))
theorem part_name {n : Str} : ∀ {f : Fm}, Fm.name n ∈ partsF f → n ∈ namesF f
  | .name m, h => by
    have e := List.mem_singleton.mp h
    cases e
    exact List.mem_cons_self ..
  | .num m, h => by cases List.mem_singleton.mp h
  | .turned f, h => by
    rcases List.mem_cons.mp (show Fm.name n ∈ .turned f :: partsF f from h) with z | z
    · cases z
    · exact part_name (f := f) z
  | .plus f g, h => by
    rcases List.mem_cons.mp (show Fm.name n ∈ .plus f g :: (partsF f ++ partsF g) from h) with z | z
    · cases z
    · rcases List.mem_append.mp z with z | z
      · exact List.mem_append_left _ (part_name z)
      · exact List.mem_append_right _ (part_name z)
  | .less f g, h => by
    rcases List.mem_cons.mp (show Fm.name n ∈ .less f g :: (partsF f ++ partsF g) from h) with z | z
    · cases z
    · rcases List.mem_append.mp z with z | z
      · exact List.mem_append_left _ (part_name z)
      · exact List.mem_append_right _ (part_name z)
  | .times f g, h => by
    rcases List.mem_cons.mp (show Fm.name n ∈ .times f g :: (partsF f ++ partsF g) from h) with z | z
    · cases z
    · rcases List.mem_append.mp z with z | z
      · exact List.mem_append_left _ (part_name z)
      · exact List.mem_append_right _ (part_name z)
theorem part_ok {N : Str → Prop} : ∀ {f k : Fm}, FmOk N f → k ∈ partsF f → FmOk N k ∧ k.size ≤ f.size
  | .name m, k, ok, h => by rw [List.mem_singleton.mp h]; exact ⟨ok, Nat.le_refl _⟩
  | .num m, k, ok, h => by rw [List.mem_singleton.mp h]; exact ⟨ok, Nat.le_refl _⟩
  | .turned f, k, ok, h => by
    rcases List.mem_cons.mp (show k ∈ .turned f :: partsF f from h) with z | z
    · rw [z]; exact ⟨ok, Nat.le_refl _⟩
    · have := part_ok (f := f) ok z
      exact ⟨this.1, Nat.le_succ_of_le this.2⟩
  | .plus f g, k, ok, h => by
    have e : (Fm.plus f g).size = f.size + g.size + 1 := rfl
    rcases List.mem_cons.mp (show k ∈ .plus f g :: (partsF f ++ partsF g) from h) with z | z
    · rw [z]; exact ⟨ok, Nat.le_refl _⟩
    · rcases List.mem_append.mp z with z | z
      · have := part_ok ok.1 z
        exact ⟨this.1, by omega⟩
      · have := part_ok ok.2 z
        exact ⟨this.1, by omega⟩
  | .less f g, k, ok, h => by
    have e : (Fm.less f g).size = f.size + g.size + 1 := rfl
    rcases List.mem_cons.mp (show k ∈ .less f g :: (partsF f ++ partsF g) from h) with z | z
    · rw [z]; exact ⟨ok, Nat.le_refl _⟩
    · rcases List.mem_append.mp z with z | z
      · have := part_ok ok.1 z
        exact ⟨this.1, by omega⟩
      · have := part_ok ok.2 z
        exact ⟨this.1, by omega⟩
  | .times f g, k, ok, h => by
    have e : (Fm.times f g).size = f.size + g.size + 1 := rfl
    rcases List.mem_cons.mp (show k ∈ .times f g :: (partsF f ++ partsF g) from h) with z | z
    · rw [z]; exact ⟨ok, Nat.le_refl _⟩
    · rcases List.mem_append.mp z with z | z
      · have := part_ok ok.1 z
        exact ⟨this.1, by omega⟩
      · have := part_ok ok.2 z
        exact ⟨this.1, by omega⟩
/-! names sought in a dict -/
theorem w_NInS {a : Addr} {ws : List (Str × Int)} {n : Str} {QB : Bool → Hp → Prop} {H : Hp} (e : H a = some (.dK (wkv ws))) (q : QB (lookW ws n).isNone H) : NInB QB (.str n) (.ref a) H := by
  refine ⟨a, (lookW ws n).map V.int, rfl, ?_, _, rfl, ?_⟩
  · have := DGet.k (H := H) (k := Sum.inr n) e
    rw [valV_wkv] at this
    exact this
  · have : (!((lookW ws n).map V.int).isSome) = (lookW ws n).isNone := by cases lookW ws n <;> rfl
    rw [this]
    exact q
theorem w_InS {a : Addr} {ws : List (Str × Int)} {n : Str} {QB : Bool → Hp → Prop} {H : Hp} (e : H a = some (.dK (wkv ws))) (q : QB (lookW ws n).isSome H) : InB QB (.str n) (.ref a) H := by
  refine ⟨a, (lookW ws n).map V.int, rfl, ?_, _, rfl, ?_⟩
  · have := DGet.k (H := H) (k := Sum.inr n) e
    rw [valV_wkv] at this
    exact this
  · have : ((lookW ws n).map V.int).isSome = (lookW ws n).isSome := by cases lookW ws n <;> rfl
    rw [this]
    exact q

/-! all parts, looked at; the circuit -/
def PartsAt (H : Hp) (p : Addr) (fs : List Fm) : Prop := ∃ ps : List Addr, H p = some (.lst (ps.map V.ref)) ∧ A2 (FmAt H) ps fs
theorem PartsAt.same {H H' : Hp} {p : Addr} {fs : List Fm} (h : PartsAt H p fs) (s : Same H H') : PartsAt H' p fs := by
  obtain ⟨ps, h1, h2⟩ := h
  exact ⟨ps, s _ _ h1, h2.mono fun _ _ k => k.same s⟩
theorem PartsAt.lst {H : Hp} {p : Addr} {fs : List Fm} (h : PartsAt H p fs) : ∃ us : List V, H p = some (.lst us) ∧ us.length = fs.length := by
  obtain ⟨ps, h1, h2⟩ := h
  exact ⟨_, h1, by rw [List.length_map, h2.1]⟩
theorem parts_cat {H2 H3 : Hp} {p q l : Addr} {xs ys : List Fm} (h : PartsAt H2 p xs) (k : PartsAt H2 q ys) (s23 : Same H2 H3) {us vs : List V} (e1 : H2 p = some (.lst us)) (e2 : H2 q = some (.lst vs)) (e : H3 l = some (.lst (us ++ vs))) : PartsAt H3 l (xs ++ ys) := by
  obtain ⟨ps, h1, h2⟩ := h
  obtain ⟨qs, k1, k2⟩ := k
  rw [e1] at h1
  rw [e2] at k1
  cases h1
  cases k1
  exact ⟨ps ++ qs, by rw [e, List.map_append], (A2.app h2 k2).mono fun _ _ z => z.same s23⟩
def sp_parts_of (K : PySem.W.Frag) (n : Nat) : Sp := fun vs H Q _ => ∃ (p : Addr) (f : Fm), vs = [.ref p] ∧ FmAt H p f ∧ f.size ≤ n ∧ f.size ≤ 1000 ∧ ∀ q H', H q = none → PartsAt H' q (partsF f) → Same H H' → Q (.ref q) H'
theorem no_parts_of {vs : List V} {H : Hp} {Q : VK} {E : XK} (h : sp_parts_of K 0 vs H Q E) : False := by
  obtain ⟨p, f, _, _, h0, _⟩ := h
  have := f.size_pos
  omega
theorem flat_take {fs : List (List Fm)} {i : Nat} {x : List Fm} (h : fs[i]? = some x) : (fs.take (i + 1)).flatten = (fs.take i).flatten ++ x := by
  rw [take_snoc h, List.flatten_append]
  simp
theorem flat_le {fs : List (List Fm)} (i : Nat) : (fs.take i).flatten.length ≤ fs.flatten.length := by
  have e := List.take_append_drop i fs
  have : fs.flatten.length = (fs.take i).flatten.length + (fs.drop i).flatten.length := by rw [← List.length_append, ← List.flatten_append, e]
  omega
theorem rec_parts_of (T : Top K mg) (n : Nat) (ih : FnOk P w K mg base CX0 (1 + n) T.a_parts_of T.d_parts_of ["formula"] (sp_parts_of K n)) : FnOk P w K mg base CX0 (1 + n + 1) T.a_parts_of T.d_parts_of ["formula"] (sp_parts_of K (n + 1)) := by
  refine T.f_parts_of.ok sc_parts_of (fun vs H Q E h => ?_) (fun cdv A outer s H vs Q E hr h => ?_)
  · obtain ⟨p, f, rfl, _⟩ := h
    rfl
  obtain ⟨p, f, rfl, h⟩ := h
  refine ⟨_, (pss_cons (ps_set (i := 1) sc_parts_of.nd rfl (.inl rfl) (pe_lst (pa_cons (pv 0) pa_nil)))
      (pss_cons (ps_if (pt_cmpR (op_niK K) (pe_ix (ix_tupK K) (pv 0) pe_int (fun _ _ => rfl)) (pe_tup (pa_cons pe_str (pa_cons pe_str pa_nil))) (by rfl)) (pss_one (ps_for PassesOwn.never rfl (pi_tup (pe_slice sl_tup (pv 0) (po_some pe_int) po_none)) (pg_name (i := 2) sc_parts_of.nd rfl (.inl rfl))
      (pss_one (ps_set (i := 1) sc_parts_of.nd rfl (.inl rfl) (pe_op op_cat (pv 1) (pe_call ih hr (by rfl) T.g_parts_of T.f_parts_of.kp T.b_parts_of .nil pass0 (pa_cons (pv 2) pa_nil))))))) pss_nil)
      (pss_one (ps_ret (pv 1))))), ?_⟩
  try dsimp only [cxOf, Cx.nox, Cx.wish]
  simp only [L2.start, List.map_cons, List.map_nil, List.length_cons, List.length_nil, Nat.reduceAdd, Nat.reduceSub, List.replicate_succ, List.replicate_zero, List.cons_append, List.nil_append]
  obtain ⟨hp, hn, hk, h⟩ := h
  obtain ⟨xs, ex⟩ := hp.head
  have hpl := parts_len f
  have hpk := parts_kids f
  walk_at "ws"
  rename_i q1 H1 n1 s1 e1
  have ex1 := s1 _ _ ex
  refine w_ixT (SqT.of ex1) at_0 ?_
  walk_at "ws"
  · rename_i p2 H2 n2 s2 e2 hin l H3 n3 s3 e3
    have hlf : leafB f = false := by rw [leaf_in] at hin; cases hb : leafB f with
      | true => rw [hb] at hin; cases hin
      | false => rfl
    obtain ⟨ks, ek, hA⟩ := hp.kids hlf
    rw [ex] at ek
    cases ek
    have s13 := (s1.trans s2).trans s3
    have hkl := kids_len f
    have lks : (ks.map V.ref).length = (kids f).length := by rw [List.length_map, hA.1]
    have lfl : ((kids f).map partsF).flatten.length + 1 = f.size := by
      rw [← hpl, hpk, List.length_cons]
    refine for_t (ks.map V.ref) (fun i σ' G => ∃ (q : Addr) (y2 : Option V), σ' = [some (.ref p), some (.ref q), y2] ∧ H q = none ∧ Same H G ∧ SqT K G l (ks.map V.ref) ∧ PartsAt G q (f :: (((kids f).map partsF).take i).flatten))
      ⟨q1, _, rfl, n1, s13, SqT.of e3, ⟨[p], s3 _ _ (s2 _ _ e1), A2.nil.snoc (hp.same s13)⟩⟩ (fun i σ' G _ q => ?_) (fun i x σ' G hx q => ?_) (fun σ' G q => ?_)
    · obtain ⟨q, y2, rfl, nq, sG, hT, _⟩ := q
      exact hT
    · obtain ⟨q, y2, rfl, nq, sG, hT, hq⟩ := q
      obtain ⟨pk, hpki, rfl⟩ := get_map hx
      obtain ⟨g, hgi, hg⟩ := hA.get hpki
      have hi := (List.getElem?_eq_some_iff.mp hgi).1
      have gsz := kid_size (List.mem_of_getElem? hgi)
      have hmi : ((kids f).map partsF)[i]? = some (partsF g) := by rw [List.getElem?_map, hgi]; rfl
      have ft := flat_take hmi
      have fl := flat_le (fs := (kids f).map partsF) (i + 1)
      rw [ft, List.length_append] at fl
      walk_at "ws"
      refine ⟨pk, g, rfl, hg.same sG, by omega, by omega, fun q2 G2 nq2 hq2 sG2 => ?_⟩
      have hq' := hq.same sG2
      obtain ⟨us, eu, lu⟩ := hq'.lst
      obtain ⟨vs, ev, lv⟩ := hq2.lst
      rw [List.length_cons] at lu
      walk_at "ws"
      intro q3 G3 n3 s3 e3
      refine ⟨q3, _, rfl, sG.free (sG2.free n3), (sG.trans sG2).trans s3, same_tup s3 (same_tup sG2 hT), ?_⟩
      rw [ft, ← List.cons_append]
      exact parts_cat hq' hq2 s3 eu ev e3
    · obtain ⟨q, y2, rfl, nq, sG, hT, hq⟩ := q
      rw [List.take_of_length_le (by rw [lks, List.length_map]; exact Nat.le_refl _), ← hpk] at hq
      walk_at "ws"
      exact h q G nq hq sG
  · rename_i p2 H2 n2 s2 e2 hin
    have hlf : leafB f = true := by rw [leaf_in] at hin; cases hb : leafB f with
      | true => rfl
      | false => rw [hb] at hin; cases hin
    have e : partsF f = [f] := by
      cases f with
      | name n => rfl
      | num n => rfl
      | _ => cases hlf
    rw [e] at h
    exact h q1 H2 n1 ⟨[p], s2 _ _ e1, A2.nil.snoc (hp.same (s1.trans s2))⟩ (s1.trans s2)
theorem all_parts_of (T : Top K mg) : ∀ n : Nat, FnOk P w K mg base CX0 (1 + n) T.a_parts_of T.d_parts_of ["formula"] (sp_parts_of K n)
  | 0 => T.f_parts_of.ok (k := 0) sc_parts_of (fun _ _ _ _ h => (no_parts_of h).elim) (fun _ _ _ _ _ _ _ _ _ h => (no_parts_of h).elim)
  | n + 1 => rec_parts_of T n (all_parts_of T n)
theorem ok_parts_of (T : Top K mg) : FnOk P w K mg base CX0 32 T.a_parts_of T.d_parts_of ["formula"] (sp_parts_of K 31) := all_parts_of T 31
/-- all names of a formula have widths -/
def HasF (wd : List (Str × Int)) (f : Fm) : Prop := ∀ n ∈ namesF f, ∃ v, lookW wd n = some v
def sp_look (K : PySem.W.Frag) : Sp := fun vs H Q E => ∃ (p d : Addr) (f : Fm) (wd : List (Str × Int)) (N : Str → Prop), vs = [.ref p, .ref d] ∧ FmAt H p f ∧ H d = some (.dK (wkv wd)) ∧ FmOk N f ∧ WdOk wd ∧ f.size ≤ 30 ∧
  (¬ HasF wd f → ∀ C H', IsC K "NoName" C → Same H H' → E (.ref C) none H') ∧ (HasF wd f → ¬ FitB 48 wd f → ∀ C H', IsC K "TooWide" C → Same H H' → E (.ref C) none H') ∧ (HasF wd f → FitB 48 wd f → ∀ H', Same H H' → Q .non H')
theorem ok_look (T : Top K mg) : FnOk P w K mg base (L2.CX P w) 63 T.a_look T.d_look ["formula", "widths"] (sp_look K) := by
  refine T.f_look.okX sc_look (fun vs H Q E h => ?_) (fun cdv A outer s H vs Q E hr h => ?_)
  · obtain ⟨p, d, f, wd, N, rfl, _⟩ := h
    rfl
  obtain ⟨p, d, f, wd, N, rfl, h⟩ := h
  refine ⟨_, (pss_cons (ps_set (i := 2) sc_look.nd rfl (.inl rfl) (pe_call (ok_parts_of T) (hr.mono (by decide)) (by rfl) T.g_parts_of T.f_parts_of.kp T.b_parts_of .nil pass0 (pa_cons (pv 0) pa_nil)))
      (pss_cons (ps_for (passes_of rfl) rfl (pi_list (pv 2)) (pg_name (i := 3) sc_look.nd rfl (.inl rfl))
      (pss_one (ps_if (PW.pt (pw_and (pt_cmpR op_eq (pe_ix (ix_tupK K) (pv 3) pe_int (fun _ _ => rfl)) pe_str (nomark _)) (pw_and1 (pt_cmp (pc_dnotin (hu_of hr) (pe_ix (ix_tupK K) (pv 3) pe_int (fun _ _ => rfl)) (pv 1)))))) (pss_one (ps_raise rfl (takes_of rfl rfl rfl rfl) (pmk_own PySem.F.excBase_ValueError T.x_NoName T.gc_NoName T.kc_NoName (raises_own T.xb_NoName T.xt_NoName) (by rfl)))) pss_nil)))
      (pss_one (ps_for (passes_of rfl) rfl (pi_list (pv 2)) (pg_name (i := 3) sc_look.nd rfl (.inl rfl))
      (pss_one (ps_if (pt_cmpR op_gt (pe_ix (ix_tupK K) (pe_call (ok_room_of T) (hr.mono (by decide)) (by rfl) T.g_room_of T.f_room_of.kp T.b_room_of .nil pass0 (pa_cons (pe_call (ok_span_of T) (hr.mono (by decide)) (by rfl) T.g_span_of T.f_span_of.kp T.b_span_of .nil pass0 (pa_cons (pv 3) (pa_cons (pv 1) pa_nil))) pa_nil)) pe_int (fun _ _ => rfl)) (pe_glob (v := V.int 48) (by rfl) T.g_ROOM ⟨_, rfl⟩) (nomark _)) (pss_one (ps_raise rfl (takes_of rfl rfl rfl rfl) (pmk_own PySem.F.excBase_ValueError T.x_TooWide T.gc_TooWide T.kc_TooWide (raises_own T.xb_TooWide T.xt_TooWide) (by rfl)))) pss_nil)))))), ?_⟩
  try dsimp only [cxOf, Cx.nox, Cx.wish]
  simp only [L2.start, List.map_cons, List.map_nil, List.length_cons, List.length_nil, Nat.reduceAdd, Nat.reduceSub, List.replicate_succ, List.replicate_zero, List.cons_append, List.nil_append]
  obtain ⟨hp, ed, ok, wdk, sz, hE1, hE2, hQ⟩ := h
  walk_at "ws"
  refine ⟨p, f, rfl, hp, by omega, by omega, fun q H1 nq hq s1 => ?_⟩
  obtain ⟨ps, eq, hA⟩ := hq
  have lps : (ps.map V.ref).length = (partsF f).length := by rw [List.length_map, hA.1]
  walk_at "ws"
  refine for_l (ps.map V.ref) (fun i σ' G => ∃ (y3 : Option V), σ' = [some (.ref p), some (.ref d), some (.ref q), y3] ∧ G = H1 ∧ ∀ n, Fm.name n ∈ (partsF f).take i → ∃ v, lookW wd n = some v)
    ⟨_, rfl, rfl, fun n z => by rw [List.take_zero] at z; cases z⟩ (fun i σ' G _ q => ?_) (fun i x σ' G hx q => ?_) (fun σ' G q => ?_)
  · obtain ⟨y3, rfl, rfl, _⟩ := q
    exact SqL.of eq
  · obtain ⟨y3, rfl, rfl, hn⟩ := q
    obtain ⟨pa, hpa, rfl⟩ := get_map hx
    obtain ⟨g, hgi, hg⟩ := hA.get hpa
    have hgm := List.mem_of_getElem? hgi
    have ed1 := s1 _ _ ed
    obtain ⟨us, eus⟩ := hg.head
    walk_at "ws"
    refine w_ixT (SqT.of eus) at_0 ?_
    walk_at "ws"
    · rename_i e
      obtain ⟨n, rfl⟩ := headF_name e
      have hg' : G pa = some (.tup [.str "name", .str n]) := hg
      walk_at "ws"
      refine w_NInS ed1 ?_
      cases hl : lookW wd n with
      | none =>
        rw [show (none : Option Int).isNone = true from rfl]
        walk_at "ws"
        exact hE1 (fun hf => by obtain ⟨v, hv⟩ := hf n (part_name hgm); rw [hl] at hv; cases hv) _ _ T.nc_NoName s1
      | some v =>
        rw [show (some v).isNone = false from rfl]
        walk_at "ws"
        refine ⟨_, rfl, rfl, fun m hm => ?_⟩
        rw [take_snoc hgi] at hm
        rcases List.mem_append.mp hm with z | z
        · exact hn m z
        · cases List.mem_singleton.mp z
          exact ⟨v, hl⟩
    · rename_i e
      refine ⟨_, rfl, rfl, fun m hm => ?_⟩
      rw [take_snoc hgi] at hm
      rcases List.mem_append.mp hm with z | z
      · exact hn m z
      · rw [← List.mem_singleton.mp z] at e
        exact absurd rfl e
  · obtain ⟨y3, rfl, rfl, hn⟩ := q
    rw [lps, List.take_of_length_le (Nat.le_refl _)] at hn
    have hf : HasF wd f := fun n m => hn n (name_part m)
    have hasf : FmOk (fun n => ∃ v, lookW wd n = some v) f := (ok_names ok).mono hf
    walk_at "ws"
    refine for_l (ps.map V.ref) (fun i σ' G2 => ∃ (y3 : Option V), σ' = [some (.ref p), some (.ref d), some (.ref q), y3] ∧ Same G G2 ∧ ∀ g ∈ (partsF f).take i, roomF wd g ≤ 48)
      ⟨_, rfl, Same.refl _, fun n z => by rw [List.take_zero] at z; cases z⟩ (fun i σ' G2 _ q => ?_) (fun i x σ' G2 hx q => ?_) (fun σ' G2 q => ?_)
    · obtain ⟨y3, rfl, sG, _⟩ := q
      exact SqL.of (sG _ _ eq)
    · obtain ⟨y3, rfl, sG, hr⟩ := q
      obtain ⟨pa, hpa, rfl⟩ := get_map hx
      obtain ⟨g, hgi, hg⟩ := hA.get hpa
      have hgm := List.mem_of_getElem? hgi
      have hgo := part_ok hasf hgm
      obtain ⟨m, b, hro⟩ := room_ok (span_le wdk g)
      have hrf : roomF wd g = m := by unfold roomF; rw [hro.eq]
      walk_at "ws"
      refine ⟨pa, d, g, wd, _, rfl, hg.same sG, sG _ _ (s1 _ _ ed), hgo.1, fun n h => h, wdk, by omega, by omega, fun q1 H2 n2 s2 e2 => ?_⟩
      walk_at "ws"
      refine ⟨q1, _, _, rfl, SqT.of e2, fun q2 H3 n3 s3 e3 => ?_⟩
      rw [hro.eq] at e3
      dsimp only at e3
      walk_at "ws"
      · rename_i hgt
        exact hE2 hf (fun fb => by have := fb g hgm; omega) _ _ T.nc_TooWide (((s1.trans sG).trans s2).trans s3)
      · rename_i hle
        refine ⟨_, rfl, (sG.trans s2).trans s3, fun k hk => ?_⟩
        rw [take_snoc hgi] at hk
        rcases List.mem_append.mp hk with z | z
        · exact hr k z
        · rw [List.mem_singleton.mp z]
          omega
    · obtain ⟨y3, rfl, sG, hr⟩ := q
      rw [lps, List.take_of_length_le (Nat.le_refl _)] at hr
      walk_at "ws"
      exact hQ hf (fun g m => hr g m) _ (s1.trans sG)
def sp_circuit_of (K : PySem.W.Frag) : Sp := fun vs H Q E => ∃ (p d : Addr) (ov sv : V) (f : Fm) (wd : List (Str × Int)) (od : Option (List Int)) (ns : List Int) (N : Str → Prop) (B D S : Nat), vs = [.ref p, .ref d, ov, sv] ∧ FmAt H p f ∧ H d = some (.dK (wkv wd)) ∧ FmOk N f ∧ WdOk wd ∧ f.size ≤ 30 ∧
  (match od with | none => ov = .non | some l => (∃ o, ov = .ref o ∧ H o = some (.lst (l.map V.int))) ∧ l.length ≤ 1000) ∧ ((sv = .non ∧ ns = []) ∨ ∃ sp, sv = .ref sp ∧ H sp = some (.lst (ns.map V.int))) ∧ (HasF wd f → FitB 48 wd f → FitB (B : Int) wd f) ∧ B ≤ 48 ∧ B * B ≤ D ∧ 3 * B * B + 9 * B + 1 ≤ S ∧ costF D S f + S ≤ 290000 ∧
  (¬ HasF wd f → ∀ C H', IsC K "NoName" C → Same H H' → E (.ref C) none H') ∧ (HasF wd f → ¬ FitB 48 wd f → ∀ C H', IsC K "TooWide" C → Same H H' → E (.ref C) none H') ∧
  (HasF wd f → FitB 48 wd f → ∀ (outs : List Nat) (R : List Row) (m : Nat) (b : Bool) (cp C dx ra oa : Addr) H', RoomOk (spanF wd f).1 (spanF wd f).2 m b → MadeOk (· ∈ namesF f) wd [] R f outs m → R.length ≤ costF D S f + S → H cp = none → H' cp = some (.ins C dx [("rows", .ref ra), ("outs", .ref oa), ("below", .bl b)]) → IsC K "Circuit" C → RowsM H' ra R → NatsAt H' oa outs → Same H H' → Q (.ref cp) H')
theorem ok_circuit_of (T : Top K mg) : FnOk P w K mg base (L2.CX P w) 170 T.a_circuit_of T.d_circuit_of ["formula", "widths", "order", "splits"] (sp_circuit_of K) := by
  refine T.f_circuit_of.ok sc_circuit_of (fun vs H Q E h => ?_) (fun cdv A outer s H vs Q E hr h => ?_)
  · obtain ⟨p, d, ov, sv, f, wd, od, ns, N, B, D, S, rfl, _⟩ := h
    rfl
  obtain ⟨p, d, ov, sv, f, wd, od, ns, N, B, D, S, rfl, h⟩ := h
  refine ⟨_, (pss_cons (ps_expr (pe_call (ok_look T) (hr.mono (by decide)) (by rfl) T.g_look T.f_look.kp T.b_look .nil (passes_call (takes_of rfl rfl rfl rfl) (fun _ _ _ _ z => z)) (pa_cons (pv 0) (pa_cons (pv 1) pa_nil))))
      (Evl.pss_cut (ps_if (pt_cmpR op_isNo (pv 3) pe_non (nomark _)) (pss_one (ps_set (i := 3) sc_circuit_of.nd rfl (.inl rfl) (pe_lst pa_nil))) pss_nil)
      (pss_cons (ps_set (i := 4) sc_circuit_of.nd rfl (.inl rfl) (pe_make T.mk_Plan (ok_Plan__init T) (hr.mono (by decide)) (by rfl) T.gc_Plan T.b_Plan__init .nil pass0 (pa_cons (pv 1) (pa_cons (pv 2) (pa_cons (pv 3) pa_nil)))))
      (pss_cons (ps_set (i := 5) sc_circuit_of.nd rfl (.inl rfl) (pe_call (ok_bits_made T) (hr.mono (by decide)) (by rfl) T.g_bits_made T.f_bits_made.kp T.b_bits_made .nil pass0 (pa_cons (pv 4) (pa_cons (pv 0) pa_nil))))
      (pss_one (ps_ret (pe_make T.mk_Circuit (ok_Circuit__init T) (hr.mono (by decide)) (by rfl) T.gc_Circuit T.b_Circuit__init .nil pass0 (pa_cons (pe_meth0 (pe_fld (pv 4) rfl) T.cl_Sheet T.m_Sheet_rows_now (ok_Sheet_rows_now T) (hr.mono (by decide)) T.b_Sheet_rows_now .nil pass0) (pa_cons (pv 5) (pa_cons (pe_ix (ix_tupK K) (pe_call (ok_room_of T) (hr.mono (by decide)) (by rfl) T.g_room_of T.f_room_of.kp T.b_room_of .nil pass0 (pa_cons (pe_call (ok_span_of T) (hr.mono (by decide)) (by rfl) T.g_span_of T.f_span_of.kp T.b_span_of .nil pass0 (pa_cons (pv 0) (pa_cons (pv 1) pa_nil))) pa_nil)) pe_int (fun _ _ => rfl)) pa_nil)))))))))), ?_⟩
  try dsimp only [cxOf, Cx.nox, Cx.wish]
  simp only [L2.start, List.map_cons, List.map_nil, List.length_cons, List.length_nil, Nat.reduceAdd, Nat.reduceSub, List.replicate_succ, List.replicate_zero, List.cons_append, List.nil_append]
  obtain ⟨hp, ed, ok, wdk, sz, ho, hs, hfB, b48, bd, bs, hcost, hE1, hE2, hQ⟩ := h
  walk_at "ws"
  refine ⟨p, d, f, wd, N, rfl, hp, ed, ok, wdk, sz, hE1, hE2, fun hf hfit H1 s1 => ?_⟩
  have hQ := hQ hf hfit
  have hfB := hfB hf hfit
  walk_at "ws"
  have k1 := T.cl_Plan
  have k2 := T.n_Plan_sheet
  have k3 := T.n_Plan_widths
  have k4 := T.cl_Sheet
  walk_at "ws"
  refine w_cut (fun σ' G => ∃ sp : Addr, σ' = [some (.ref p), some (.ref d), some ov, some (.ref sp), none, none] ∧ G sp = some (.lst (ns.map V.int)) ∧ Same H G) ?_ fun σ' G k => ?_
  · rcases hs with ⟨rfl, rfl⟩ | ⟨sp, rfl, es⟩
    · walk_at "ws"
      rename_i q H2 n2 s2 e2
      exact ⟨q, rfl, e2, s1.trans s2⟩
    · walk_at "ws"
      exact ⟨sp, rfl, s1 _ _ es, s1⟩
  obtain ⟨sp, rfl, esp, sG⟩ := k
  walk_at "ws"
  rename_i pl dx H3 n3 nd3 s3 e3
  refine ⟨pl, T.c_Plan, dx, d, sp, ov, rfl, e3, T.nc_Plan, fun sh r H4 nsh nr pa sa rm f4 => ⟨rfl, ?_⟩⟩
  have S03 := sG.trans s3
  have npl : H pl = none := sG.free n3
  have nr0 : H r = none := S03.free nr
  have keep4 : ∀ {bb : Addr} {o : HO}, G bb = some o → H4 bb = some o := fun {bb o} e => f4 _ _ (s3 _ _ e) fun z => by rw [List.mem_singleton.mp z, n3] at e; cases e
  have S04 : Same H H4 := fun bb o e => keep4 (sG _ _ e)
  have nrG : G r = none := s3.free nr
  have P4 : PlanI K H4 pl sh r d ov sp wd od ns := by
    refine ⟨pa, sa, S04 _ _ ed, ?_, keep4 esp, fun z => by rw [z, nrG] at esp; cases esp⟩
    cases od with
    | none => exact ho
    | some l =>
      obtain ⟨⟨o, h1, h2⟩, _⟩ := ho
      exact ⟨o, h1, S04 _ _ h2, fun z => by rw [z, nr0] at h2; cases h2⟩
  have hodl : ∀ l, od = some l → l.length ≤ 1000 := fun l e => by
    subst e
    exact ho.2
  have has : Has (· ∈ namesF f) wd := hf
  have okf : FmOk (· ∈ namesF f) f := ok_names ok
  have M : MkC K H4 pl sh r d ov sp wd od ns [] (· ∈ namesF f) B D S f := ⟨P4, rm, RowsW.nil _ _, okf, hfB, has, wdk, sz, hodl, b48, bd, bs⟩
  walk_at "ws"
  refine ⟨pl, sh, r, d, sp, p, ov, wd, od, ns, [], (· ∈ namesF f), B, D, S, f, rfl, hp.same S04, M, by rw [List.length_nil]; omega, by omega, fun outs R m b oa H5 hro hmo hRl noa hout hM5 f5 => ?_⟩
  rw [List.length_nil, Nat.zero_add] at hRl
  have f05 : Fr [r] H H5 := (Fr.of S04).trans f5
  have S05 : Same H H5 := fun bb o e => f05 _ _ e fun z => by rw [List.mem_singleton.mp z, nr0] at e; cases e
  have P5 := P4.fr rm f5 fun mm hm => .inl (List.mem_singleton.mp hm)
  obtain ⟨C, dx5, e5, c5⟩ := id P5.fp
  obtain rfl := c5.one T.nc_Plan
  walk_at "ws"
  obtain ⟨C, ds5, es5, cs5⟩ := id P5.fs
  obtain rfl := cs5.one T.nc_Sheet
  walk_at "ws"
  refine use_now P5.fs hM5 (by omega) fun ra H6 n6 s6 hM6 => ?_
  have S06 := S05.trans s6
  walk_at "ws"
  refine ⟨p, d, f, wd, (· ∈ namesF f), rfl, hp.same S06, S06 _ _ ed, okf, has, wdk, by omega, by omega, fun q1 H7 n7 s7 e7 => ?_⟩
  walk_at "ws"
  refine ⟨q1, _, _, rfl, SqT.of e7, fun q2 H8 n8 s8 e8 => ?_⟩
  rw [hro.eq] at e8
  dsimp only at e8
  walk_at "ws"
  rename_i cp dxc H9 n9 nd9 s9 e9
  refine ⟨cp, T.c_Circuit, dxc, ra, oa, b, rfl, e9, T.nc_Circuit, fun Ha ea fa => ⟨rfl, ?_⟩⟩
  have s69 := (s7.trans s8).trans s9
  have S08 := (S06.trans s7).trans s8
  have ncp : H cp = none := S08.free n9
  have keepA : ∀ {bb : Addr} {o : HO}, H6 bb = some o → Ha bb = some o := fun {bb o} e => fa _ _ (s69 _ _ e) fun z => by
    rw [List.mem_singleton.mp z] at e
    have := (s7.trans s8) _ _ e
    rw [n9] at this
    cases this
  have S0A : Same H Ha := fun bb o e => keepA (S06 _ _ e)
  have S6A : Same H6 Ha := fun bb o e => keepA e
  exact hQ outs R m b cp T.c_Circuit dxc ra oa Ha hro hmo hRl ncp ea T.nc_Circuit (hM6.same S6A) (S6A _ _ (s6 _ _ hout)) S0A

/-! formulas drawn -/
theorem letters_ix {i : Int} (h : 0 ≤ i ∧ i < 26) {H : Hp} {Q : VK} (q : ∀ c, letter c → Q (.str ⟨#[c]⟩) H) : rIxS (.str (Str.ofString "abcdefghijklmnopqrstuvwxyz")) (.int i) H Q := by
  obtain ⟨c, e, hc⟩ := letters_at i h
  exact w_ixS (by decide +kernel) e (q c hc)
theorem letters_ixF {i : Int} (h : 0 ≤ i ∧ i < 26) {H : Hp} {Q : VK} (q : Q (.str ⟨#[97 + i.toNat]⟩) H) : rIxS (.str (Str.ofString "abcdefghijklmnopqrstuvwxyz")) (.int i) H Q := by
  have e : (Str.ofString "abcdefghijklmnopqrstuvwxyz").cps.toList = (List.range 26).map (· + 97) := by decide +kernel
  refine w_ixS (by decide +kernel) (c := 97 + i.toNat) ?_ q
  rw [e]
  obtain ⟨n, rfl⟩ := Int.eq_ofNat_of_zero_le h.1
  have hn : n < 26 := by omega
  refine atI_nat ?_
  rw [List.getElem?_map, List.getElem?_range hn, Int.toNat_natCast, Nat.add_comm]
  rfl
/-- the letter at the place j of the name k -/
def letF (v pl k : Int) (j : Nat) : Nat := 97 + ((v / 36 + (j : Int) * (j : Int) + (if decide (V.int (j : Int) = V.int pl) = true then 1 else 0) * k) % 26).toNat
def nameF (v sz pl : Int) (k : Nat) : Str := ⟨((List.range sz.toNat).map (letF v pl (k : Int))).toArray⟩
def namesV (v : Int) : List Str := (List.range 5).map (nameF v (1 + v % 6) (v / 6 % (1 + v % 6)))
def namesL (n : Int) : List Str := namesV (mixF n 7)
theorem namesL_len (n : Int) : (namesL n).length = 5 := by unfold namesL namesV; rw [List.length_map, List.length_range]
theorem namesL_ok (n : Int) : ∀ x ∈ namesL n, NameOk x := by
  intro x hx
  unfold namesL namesV at hx
  obtain ⟨k, _, rfl⟩ := List.mem_map.mp hx
  generalize mixF n 7 = v
  have hsz : 1 ≤ 1 + v % 6 ∧ 1 + v % 6 ≤ 6 := by omega
  have hl : (nameF v (1 + v % 6) (v / 6 % (1 + v % 6)) k).length = (1 + v % 6).toNat := by
    show (((List.range (1 + v % 6).toNat).map (letF v (v / 6 % (1 + v % 6)) (k : Int))).toArray).size = _
    simp
  refine ⟨by omega, fun c hc => ?_⟩
  have hc : c ∈ (List.range (1 + v % 6).toNat).map (letF v (v / 6 % (1 + v % 6)) (k : Int)) := hc
  obtain ⟨j, _, rfl⟩ := List.mem_map.mp hc
  unfold letter letF
  omega
def sp_law_names (K : PySem.W.Frag) : Sp := fun vs H Q _ => ∃ n : Int, vs = [.int n] ∧ Builtin.Int.intBits n ≤ 1048600 ∧
  ∀ p H', H p = none → Same H H' → H' p = some (.lst ((namesL n).map V.str)) → Q (.ref p) H'
theorem ok_law_names (T : Top K mg) : FnOk P w K mg base CX0 2 T.a_law_names T.d_law_names ["_law_cell"] (sp_law_names K) := by
  refine T.f_law_names.ok sc_law_names (fun vs H Q E h => ?_) (fun cdv A outer s H vs Q E hr h => ?_)
  · obtain ⟨n, rfl, _⟩ := h
    rfl
  obtain ⟨n, rfl, h⟩ := h
  refine ⟨_, (pss_cons (ps_set (i := 1) sc_law_names.nd rfl (.inl rfl) pe_str)
      (pss_cons (ps_set (i := 2) sc_law_names.nd rfl (.inl rfl) (pe_call (ok_law_mixed T) (hr.mono (by decide)) (by rfl) T.g_law_mixed T.f_law_mixed.kp T.b_law_mixed .nil pass0 (pa_cons (pv 0) (pa_cons pe_int pa_nil))))
      (pss_cons (ps_set (i := 3) sc_law_names.nd rfl (.inl rfl) (pe_op op_add pe_int (pe_op op_mod (pv 2) pe_int)))
      (pss_cons (ps_set (i := 4) sc_law_names.nd rfl (.inl rfl) (pe_op op_mod (pe_op op_fdiv (pv 2) pe_int) (pv 3)))
      (pss_cons (ps_set (i := 5) sc_law_names.nd rfl (.inl rfl) (pe_lst pa_nil))
      (pss_cons (ps_for PassesOwn.never rfl (pi_range1 (by rfl) T.z_range (pa_cons pe_int pa_nil)) (pg_name (i := 6) sc_law_names.nd rfl (.inl rfl))
      (pss_cons (ps_set (i := 7) sc_law_names.nd rfl (.inl rfl) pe_str)
      (pss_cons (ps_for PassesOwn.never rfl (pi_range1 (by rfl) T.z_range (pa_cons (pv 3) pa_nil)) (pg_name (i := 8) sc_law_names.nd rfl (.inl rfl))
      (pss_cons (ps_set (i := 9) sc_law_names.nd rfl (.inl rfl) (pe_op op_add (pe_op op_add (pe_op op_fdiv (pv 2) pe_int) (pe_op op_mulI (pv 8) (pv 8))) (pe_op op_mulI (pe_callTy c_intB (by rfl) T.z_int (by decide +kernel) (pa_cons (pe_cmpR op_eq (pv 8) (pv 4) (nomark _)) pa_nil)) (pv 6))))
      (pss_one (ps_set (i := 7) sc_law_names.nd rfl (.inl rfl) (pe_op op_addS (pv 7) (pe_ix ix_str (pv 1) (pe_op op_mod (pv 9) pe_int) (fun _ _ => rfl)))))))
      (pss_one (ps_expr (pe_bm PySem.F.plainAttrs_list PySem.F.slot_list_append PySem.F.type_list_append mt_append (pv 5) (pa_cons (pv 7) pa_nil)))))))
      (pss_one (ps_ret (pv 5))))))))), ?_⟩
  try dsimp only [cxOf, Cx.nox, Cx.wish]
  simp only [L2.start, List.map_cons, List.map_nil, List.length_cons, List.length_nil, Nat.reduceAdd, Nat.reduceSub, List.replicate_succ, List.replicate_zero, List.cons_append, List.nil_append]
  obtain ⟨hn, h⟩ := h
  walk_at "ws"
  rename_i v hv v0 v1 o H1 n1 s1 e1
  have h : ∀ p H', H p = none → Same H H' → H' p = some (.lst ((namesV v).map V.str)) → Q (.ref p) H' := by
    rw [← hv]; exact h
  unfold namesV at h
  have hsz : 1 ≤ 1 + v % 6 ∧ 1 + v % 6 ≤ 6 := by omega
  generalize 1 + v % 6 = sz at *
  generalize v / 6 % sz = pl at *
  have hv36 : 0 ≤ v / 36 := by omega
  refine for_r (fun i σ' G => ∃ (y6 y7 y8 y9 : Option V), i ≤ 5 ∧ σ' = [some (.int n), some (.str "abcdefghijklmnopqrstuvwxyz"), some (.int v), some (.int sz), some (.int pl), some (.ref o), y6, y7, y8, y9] ∧ Same H G ∧ G o = some (.lst (((List.range i).map (nameF v sz pl)).map V.str))) ⟨_, _, _, _, by decide, rfl, s1, e1⟩ (fun i σ' G hi q => ?_) (fun σ' G q => ?_)
  · obtain ⟨y6, y7, y8, y9, _, rfl, sG, eG⟩ := q
    have hi5 : i < 5 := hi
    walk_at "ws"
    refine for_r (fun j σ2 G2 => ∃ (y8 y9 : Option V), j ≤ sz.toNat ∧ σ2 = [some (.int n), some (.str "abcdefghijklmnopqrstuvwxyz"), some (.int v), some (.int sz), some (.int pl), some (.ref o), some (.int (i : Int)), some (.str ⟨((List.range j).map (letF v pl (i : Int))).toArray⟩), y8, y9] ∧ G2 = G) ⟨_, _, Nat.zero_le _, rfl, rfl⟩ (fun j σ2 G2 hj q => ?_) (fun σ2 G2 q => ?_)
    · obtain ⟨y8, y9, _, rfl, rfl⟩ := q
      have hj6 : j < 6 := by omega
      have jj : (0 : Int) ≤ (j : Int) * (j : Int) := Int.mul_nonneg (Int.natCast_nonneg j) (Int.natCast_nonneg j)
      have hzl : (⟨((List.range j).map (letF v pl (i : Int))).toArray⟩ : Str).length = j := by
        show (((List.range j).map (letF v pl (i : Int))).toArray).size = j
        simp
      walk_at "ws"
      refine letters_ixF ⟨Int.emod_nonneg _ (by decide), Int.emod_lt_of_pos _ (by decide)⟩ ?_
      have hcl : ∀ c : Nat, (⟨#[c]⟩ : Str).length = 1 := fun _ => rfl
      walk_at "ws"
      refine w_addS (by rw [hzl, hcl]; omega) ?_
      walk_at "ws"
      refine ⟨some (.int (j : Int)), some (.int (v / 36 + (j : Int) * (j : Int) + (if decide (V.int (j : Int) = V.int pl) = true then 1 else 0) * (i : Int))), by omega, ?_, rfl⟩
      have e : (⟨((List.range (j + 1)).map (letF v pl (i : Int))).toArray⟩ : Str) = (⟨((List.range j).map (letF v pl (i : Int))).toArray⟩ : Str) ++ ⟨#[letF v pl (i : Int) j]⟩ := by
        show (⟨_⟩ : Str) = (⟨_ ++ _⟩ : Str)
        rw [List.range_succ, List.map_append]
        simp
      rw [e]
      rfl
    · obtain ⟨y8, y9, _, rfl, rfl⟩ := q
      have hnz : (((List.range i).map (nameF v sz pl)).map V.str).length ≤ 100 := by rw [List.length_map, List.length_map, List.length_range]; omega
      walk_at "ws"
      refine ⟨_, _, _, _, by omega, rfl, same_mut sG n1, ?_⟩
      rw [upd_same, List.range_succ, List.map_append, List.map_append]
      rfl
  · obtain ⟨y6, y7, y8, y9, _, rfl, sG, eG⟩ := q
    walk_at "ws"
    exact h o G n1 sG eG

/-- no number in it is beyond M -/
def NumLe (M : Int) : Fm → Prop
  | .name _ => True
  | .num n => n ≤ M
  | .turned f => NumLe M f
  | .plus f g => NumLe M f ∧ NumLe M g
  | .less f g => NumLe M f ∧ NumLe M g
  | .times f g => NumLe M f ∧ NumLe M g

/-! the room, by going on until it fits -/
def sp_law_room (K : PySem.W.Frag) : Sp := fun vs H Q _ => ∃ (a : Addr) (lo hi : Int) (m : Nat) (b : Bool), vs = [.ref a] ∧ SqT K H a [.int lo, .int hi] ∧ RoomOk lo hi m b ∧ m ≤ 5000 ∧
  ∀ p H', H p = none → Same H H' → H' p = some (.tup [.int (m : Int), .bl b]) → Q (.ref p) H'
theorem p2mono {i j : Nat} (h : i ≤ j) : (2 : Int) ^ i ≤ 2 ^ j := by
  obtain ⟨k, rfl⟩ := Nat.exists_eq_add_of_le h
  rw [Int.pow_add]
  have a := p2pos i
  have b := p2pos k
  have := Int.mul_le_mul_of_nonneg_left (show (1 : Int) ≤ 2 ^ k by omega) (Int.le_of_lt a)
  omega
theorem RoomOk.above {lo hi : Int} {m k : Nat} {b : Bool} (h : RoomOk lo hi m b) (hk : m ≤ k) : FitsB lo hi k b := by
  have f := h.fit
  unfold FitsB at *
  cases b with
  | true =>
    rw [if_pos rfl] at *
    have := p2mono (show m - 1 ≤ k - 1 by omega)
    omega
  | false =>
    rw [if_neg (by decide)] at *
    have := p2mono hk
    omega
theorem ok_law_room (T : Top K mg) : FnOk P w K mg base CX0 1 T.a_law_room T.d_law_room ["_law_span_here"] (sp_law_room K) := by
  refine T.f_law_room.ok sc_law_room (fun vs H Q E h => ?_) (fun cdv A outer s H vs Q E hr h => ?_)
  · obtain ⟨a, lo, hi, m, b, rfl, _⟩ := h
    rfl
  obtain ⟨a, lo, hi, m, b, rfl, h⟩ := h
  refine ⟨_, (pss_cons (ps_asg (pv 0) (pg_tup (by rfl) (pgs_cons (pg_name (i := 1) sc_law_room.nd rfl (.inl rfl)) (pgs_cons (pg_name (i := 2) sc_law_room.nd rfl (.inl rfl)) pgs_nil))))
      (pss_cons (ps_set (i := 3) sc_law_room.nd rfl (.inl rfl) pe_int)
      (pss_cons (ps_if (pt_cmpR op_lt (pv 1) pe_int (nomark _)) (pss_one (ps_while PassesOwn.never (PW.pt (pw_or (pt_cmpR op_lt (pv 1) (pe_un un_neg (pe_op op_shl pe_int (pe_op op_sub (pv 3) pe_int))) (nomark _)) (pw_or1 (pt_cmpR op_ge (pv 2) (pe_op op_shl pe_int (pe_op op_sub (pv 3) pe_int)) (nomark _)))))
      (pss_one (ps_set (i := 3) sc_law_room.nd rfl (.inl rfl) (pe_op op_add (pv 3) pe_int))))) (pss_one (ps_while PassesOwn.never (pt_cmpR op_ge (pv 2) (pe_op op_shl pe_int (pv 3)) (nomark _))
      (pss_one (ps_set (i := 3) sc_law_room.nd rfl (.inl rfl) (pe_op op_add (pv 3) pe_int))))))
      (pss_one (ps_ret (pe_tup (pa_cons (pv 3) (pa_cons (pe_cmpR op_lt (pv 1) pe_int (nomark _)) pa_nil)))))))), ?_⟩
  try dsimp only [cxOf, Cx.nox, Cx.wish]
  simp only [L2.start, List.map_cons, List.map_nil, List.length_cons, List.length_nil, Nat.reduceAdd, Nat.reduceSub, List.replicate_succ, List.replicate_zero, List.cons_append, List.nil_append]
  obtain ⟨hS, ok, hm, h⟩ := h
  have pos := ok.pos
  have hn := ok.neg
  walk_at "ws"
  · rename_i hlo
    rw [decide_eq_true hlo] at hn
    subst hn
    refine ⟨fun k σ' G => ∃ c : Nat, σ' = [some (.ref a), some (.int lo), some (.int hi), some (.int ((c + 1 : Nat) : Int))] ∧ Same H G ∧ c + 1 + k = m, ⟨m - 1, 0, rfl, Same.refl _, by omega⟩, fun k σ' G q => ?_⟩
    obtain ⟨c, rfl, sm, hc⟩ := q
    have e1 : ((c + 1 : Nat) : Int) - 1 = (c : Int) := by omega
    walk_at "ws"
    · rename_i hz
      refine ⟨fun σ' H' => ∃ m', m' < k ∧ _, fun _ _ z => z, ?_⟩
      walk_at "ws"
      rw [e1] at hz
      have hnf : ¬ m ≤ c + 1 := fun z => by
        have hf := ok.above z
        unfold FitsB at hf
        rw [if_pos rfl] at hf
        rw [Int.toNat_natCast, Int.one_mul] at hz
        rw [Nat.add_sub_cancel] at hf
        omega
      exact ⟨k - 1, by omega, c + 1, rfl, sm, by omega⟩
    · rename_i _ hz
      refine ⟨fun σ' H' => ∃ m', m' < k ∧ _, fun _ _ z => z, ?_⟩
      walk_at "ws"
      rw [e1] at hz
      have hnf : ¬ m ≤ c + 1 := fun z => by
        have hf := ok.above z
        unfold FitsB at hf
        rw [if_pos rfl] at hf
        rw [Int.toNat_natCast, Int.one_mul] at hz
        rw [Nat.add_sub_cancel] at hf
        omega
      exact ⟨k - 1, by omega, c + 1, rfl, sm, by omega⟩
    · rename_i h1 h2 p H1 n1 s1 e2
      rw [e1, Int.toNat_natCast, Int.one_mul] at h1 h2
      have hle := ok.least (c + 1) (by omega) (by unfold FitsB; rw [if_pos rfl, Nat.add_sub_cancel]; omega)
      have hcm : c + 1 = m := by omega
      rw [hcm, decide_eq_true hlo] at e2
      exact h _ _ (sm.free n1) (sm.trans s1) e2
  · rename_i hlo
    rw [decide_eq_false hlo] at hn
    subst hn
    refine ⟨fun k σ' G => ∃ c : Nat, σ' = [some (.ref a), some (.int lo), some (.int hi), some (.int ((c + 1 : Nat) : Int))] ∧ Same H G ∧ c + 1 + k = m, ⟨m - 1, 0, rfl, Same.refl _, by omega⟩, fun k σ' G q => ?_⟩
    obtain ⟨c, rfl, sm, hc⟩ := q
    walk_at "ws"
    · rename_i hz
      refine ⟨fun σ' H' => ∃ m', m' < k ∧ _, fun _ _ z => z, ?_⟩
      walk_at "ws"
      have hnf : ¬ m ≤ c + 1 := fun z => by
        have hf := ok.above z
        unfold FitsB at hf
        rw [if_neg (by decide)] at hf
        rw [Int.toNat_natCast, Int.one_mul] at hz
        omega
      exact ⟨k - 1, by omega, c + 1, rfl, sm, by omega⟩
    · rename_i h2 p H1 n1 s1 e2
      rw [Int.toNat_natCast, Int.one_mul] at h2
      have hle := ok.least (c + 1) (by omega) (by unfold FitsB; rw [if_neg (by decide)]; omega)
      have hcm : c + 1 = m := by omega
      rw [hcm, decide_eq_false hlo] at e2
      exact h _ _ (sm.free n1) (sm.trans s1) e2

/-! what a formula comes to -/
def sp_law_worth (K : PySem.W.Frag) (n : Nat) : Sp := fun vs H Q _ => ∃ (p d : Addr) (f : Fm) (ws : List (Str × Int)) (N : Str → Prop), vs = [.ref p, .ref d] ∧ FmAt H p f ∧ H d = some (.dK (wkv ws)) ∧ FmOk N f ∧ Has N ws ∧ WsSmall ws ∧ f.size ≤ n ∧ f.size ≤ 1000 ∧ Q (.int (worthF ws f)) H
theorem no_law_worth {vs : List V} {H : Hp} {Q : VK} {E : XK} (h : sp_law_worth K 0 vs H Q E) : False := by
  obtain ⟨p, d, f, ws, N, _, _, _, _, _, _, h0, _⟩ := h
  have := f.size_pos
  omega
theorem rec_law_worth (T : Top K mg) (n : Nat) (ih : FnOk P w K mg base CX0 (1 + n) T.a_law_worth T.d_law_worth ["_law_formula", "_law_words_here"] (sp_law_worth K n)) : FnOk P w K mg base CX0 (1 + n + 1) T.a_law_worth T.d_law_worth ["_law_formula", "_law_words_here"] (sp_law_worth K (n + 1)) := by
  refine T.f_law_worth.ok sc_law_worth (fun vs H Q E h => ?_) (fun cdv A outer s H vs Q E hr h => ?_)
  · obtain ⟨p, d, f, ws, N, rfl, _⟩ := h
    rfl
  obtain ⟨p, d, f, ws, N, rfl, h⟩ := h
  refine ⟨_, (pss_cons (ps_if (pt_cmpR op_eq (pe_ix (ix_tupK K) (pv 0) pe_int (fun _ _ => rfl)) pe_str (nomark _)) (pss_one (ps_ret (pe_dget (hu_of hr) (pv 1) (pe_ix (ix_tupK K) (pv 0) pe_int (fun _ _ => rfl)) (fun _ _ => rfl)))) pss_nil)
      (pss_cons (ps_if (pt_cmpR op_eq (pe_ix (ix_tupK K) (pv 0) pe_int (fun _ _ => rfl)) pe_str (nomark _)) (pss_one (ps_ret (pe_ix (ix_tupK K) (pv 0) pe_int (fun _ _ => rfl)))) pss_nil)
      (pss_cons (ps_set (i := 2) sc_law_worth.nd rfl (.inl rfl) (pe_call ih hr (by rfl) T.g_law_worth T.f_law_worth.kp T.b_law_worth .nil pass0 (pa_cons (pe_ix (ix_tupK K) (pv 0) pe_int (fun _ _ => rfl)) (pa_cons (pv 1) pa_nil))))
      (pss_cons (ps_if (pt_cmpR op_eq (pe_ix (ix_tupK K) (pv 0) pe_int (fun _ _ => rfl)) pe_str (nomark _)) (pss_one (ps_ret (pe_op op_sub pe_int (pv 2)))) pss_nil)
      (pss_cons (ps_set (i := 3) sc_law_worth.nd rfl (.inl rfl) (pe_call ih hr (by rfl) T.g_law_worth T.f_law_worth.kp T.b_law_worth .nil pass0 (pa_cons (pe_ix (ix_tupK K) (pv 0) pe_int (fun _ _ => rfl)) (pa_cons (pv 1) pa_nil))))
      (pss_cons (ps_if (pt_cmpR op_eq (pe_ix (ix_tupK K) (pv 0) pe_int (fun _ _ => rfl)) pe_str (nomark _)) (pss_one (ps_ret (pe_op op_add (pv 2) (pv 3)))) pss_nil)
      (pss_cons (ps_if (pt_cmpR op_eq (pe_ix (ix_tupK K) (pv 0) pe_int (fun _ _ => rfl)) pe_str (nomark _)) (pss_one (ps_ret (pe_op op_sub (pv 2) (pv 3)))) pss_nil)
      (pss_one (ps_ret (pe_op op_mulI (pv 2) (pv 3))))))))))), ?_⟩
  try dsimp only [cxOf, Cx.nox, Cx.wish]
  simp only [L2.start, List.map_cons, List.map_nil, List.length_cons, List.length_nil, Nat.reduceAdd, Nat.reduceSub, List.replicate_succ, List.replicate_zero, List.cons_append, List.nil_append]
  obtain ⟨hp, hd, ok, has, sm, hn, hk, h⟩ := h
  cases f with
  | name m =>
    have hp : H p = some (.tup [.str "name", .str m]) := hp
    obtain ⟨v, hv⟩ := has m ok
    have hv2 : valV (wkv ws) (Sum.inr m) = some (.int v) := by rw [valV_wkv, hv]; rfl
    have e : worthF ws (.name m) = v := by show (lookW ws m).getD 0 = v; rw [hv]; rfl
    rw [e] at h
    walk_at "ws"
    exact h
  | num m =>
    have hp : H p = some (.tup [.str "number", .int m]) := hp
    walk_at "ws"
    exact h
  | turned f =>
    obtain ⟨a, hp, ha⟩ := hp
    have hn : f.size + 1 ≤ n + 1 := hn
    have hk : f.size + 1 ≤ 1000 := hk
    walk_at "ws"
    refine ⟨a, d, f, ws, N, rfl, ha, hd, ok, has, sm, by omega, by omega, ?_⟩
    walk_at "ws"
    rw [show (0 : Int) - worthF ws f = -worthF ws f from Int.zero_sub _]
    exact h
  | plus f g =>
    obtain ⟨a, b, hp, ha, hb⟩ := hp
    have hn : f.size + g.size + 1 ≤ n + 1 := hn
    have hk : f.size + g.size + 1 ≤ 1000 := hk
    have := f.size_pos
    have := g.size_pos
    walk_at "ws"
    refine ⟨a, d, f, ws, N, rfl, ha, hd, ok.1, has, sm, by omega, by omega, ?_⟩
    walk_at "ws"
    refine ⟨b, d, g, ws, N, rfl, hb, hd, ok.2, has, sm, by omega, by omega, ?_⟩
    walk_at "ws"
    exact h
  | less f g =>
    obtain ⟨a, b, hp, ha, hb⟩ := hp
    have hn : f.size + g.size + 1 ≤ n + 1 := hn
    have hk : f.size + g.size + 1 ≤ 1000 := hk
    have := f.size_pos
    have := g.size_pos
    walk_at "ws"
    refine ⟨a, d, f, ws, N, rfl, ha, hd, ok.1, has, sm, by omega, by omega, ?_⟩
    walk_at "ws"
    refine ⟨b, d, g, ws, N, rfl, hb, hd, ok.2, has, sm, by omega, by omega, ?_⟩
    walk_at "ws"
    exact h
  | times f g =>
    obtain ⟨a, b, hp, ha, hb⟩ := hp
    have hn : f.size + g.size + 1 ≤ n + 1 := hn
    have hk : f.size + g.size + 1 ≤ 1000 := hk
    have := f.size_pos
    have := g.size_pos
    have m1 := worth_abs sm ok.1
    have m2 := worth_abs sm ok.2
    walk_at "ws"
    refine ⟨a, d, f, ws, N, rfl, ha, hd, ok.1, has, sm, by omega, by omega, ?_⟩
    walk_at "ws"
    refine ⟨b, d, g, ws, N, rfl, hb, hd, ok.2, has, sm, by omega, by omega, ?_⟩
    walk_at "ws"
    refine w_I (mul_abs m1 m2 (by omega)) ?_
    exact h
theorem all_law_worth (T : Top K mg) : ∀ n : Nat, FnOk P w K mg base CX0 (1 + n) T.a_law_worth T.d_law_worth ["_law_formula", "_law_words_here"] (sp_law_worth K n)
  | 0 => T.f_law_worth.ok (k := 0) sc_law_worth (fun _ _ _ _ h => (no_law_worth h).elim) (fun _ _ _ _ _ _ _ _ _ h => (no_law_worth h).elim)
  | n + 1 => rec_law_worth T n (all_law_worth T n)
theorem ok_law_worth (T : Top K mg) : FnOk P w K mg base CX0 61 T.a_law_worth T.d_law_worth ["_law_formula", "_law_words_here"] (sp_law_worth K 60) := all_law_worth T 60

def sp_law_ends (K : PySem.W.Frag) : Sp := fun vs H Q _ => ∃ w : Int, vs = [.int w] ∧ (w ≠ 0 ∧ -100 ≤ w ∧ w ≤ 100) ∧
  ∀ p H', H p = none → Same H H' → H' p = some (.tup [.int (spanW w).1, .int (spanW w).2]) → Q (.ref p) H'
theorem ok_law_ends (T : Top K mg) : FnOk P w K mg base CX0 1 T.a_law_ends T.d_law_ends ["_law_width"] (sp_law_ends K) := by
  refine T.f_law_ends.ok sc_law_ends (fun vs H Q E h => ?_) (fun cdv A outer s H vs Q E hr h => ?_)
  · obtain ⟨z, rfl, _⟩ := h
    rfl
  obtain ⟨z, rfl, h⟩ := h
  refine ⟨_, (pss_cons (ps_if (pt_cmpR op_gt (pv 0) pe_int (nomark _)) (pss_one (ps_ret (pe_tup (pa_cons pe_int (pa_cons (pe_op op_sub (pe_op op_shl pe_int (pv 0)) pe_int) pa_nil))))) pss_nil)
      (pss_one (ps_ret (pe_tup (pa_cons (pe_un un_neg (pe_op op_shl pe_int (pe_op op_sub (pe_un un_neg pe_int) (pv 0)))) (pa_cons (pe_op op_sub (pe_op op_shl pe_int (pe_op op_sub (pe_un un_neg pe_int) (pv 0))) pe_int) pa_nil)))))), ?_⟩
  try dsimp only [cxOf, Cx.nox, Cx.wish]
  simp only [L2.start, List.map_cons, List.map_nil, List.length_cons, List.length_nil, Nat.reduceAdd, Nat.reduceSub, List.replicate_succ, List.replicate_zero, List.cons_append, List.nil_append]
  obtain ⟨⟨h0, h1, h2⟩, h⟩ := h
  walk_at "ws"
  · rename_i hz p H1 hn hs hp
    refine h p H1 hn hs ?_
    rw [hp, spanW, if_pos hz, Int.one_mul]
  · rename_i hz p H1 hn hs hp
    refine h p H1 hn hs ?_
    rw [hp, spanW, if_neg hz, Int.one_mul, show -1 - z = -z - 1 by omega]
def sp_law_span (K : PySem.W.Frag) (n : Nat) : Sp := fun vs H Q _ => ∃ (p d : Addr) (f : Fm) (ws : List (Str × Int)) (N : Str → Prop), vs = [.ref p, .ref d] ∧ FmAt H p f ∧ H d = some (.dK (wkv ws)) ∧ FmOk N f ∧ Has N ws ∧ WdOk ws ∧ f.size ≤ n ∧ f.size ≤ 1000 ∧
  ∀ q H', H q = none → Same H H' → H' q = some (.tup [.int (spanF ws f).1, .int (spanF ws f).2]) → Q (.ref q) H'
theorem no_law_span {vs : List V} {H : Hp} {Q : VK} {E : XK} (h : sp_law_span K 0 vs H Q E) : False := by
  obtain ⟨p, d, f, ws, N, _, _, _, _, _, _, h0, _⟩ := h
  have := f.size_pos
  omega
theorem rec_law_span (T : Top K mg) (n : Nat) (ih : FnOk P w K mg base CX0 (2 + n) T.a_law_span T.d_law_span ["_law_formula", "_law_widths"] (sp_law_span K n)) : FnOk P w K mg base CX0 (2 + n + 1) T.a_law_span T.d_law_span ["_law_formula", "_law_widths"] (sp_law_span K (n + 1)) := by
  refine T.f_law_span.ok sc_law_span (fun vs H Q E h => ?_) (fun cdv A outer s H vs Q E hr h => ?_)
  · obtain ⟨p, d, f, ws, N, rfl, _⟩ := h
    rfl
  obtain ⟨p, d, f, ws, N, rfl, h⟩ := h
  refine ⟨_, (pss_cons (ps_if (pt_cmpR op_eq (pe_ix (ix_tupK K) (pv 0) pe_int (fun _ _ => rfl)) pe_str (nomark _)) (pss_one (ps_ret (pe_call (ok_law_ends T) (hr.mono (by omega)) (by rfl) T.g_law_ends T.f_law_ends.kp T.b_law_ends .nil pass0 (pa_cons (pe_dget (hu_of hr) (pv 1) (pe_ix (ix_tupK K) (pv 0) pe_int (fun _ _ => rfl)) (fun _ _ => rfl)) pa_nil)))) pss_nil)
      (pss_cons (ps_if (pt_cmpR op_eq (pe_ix (ix_tupK K) (pv 0) pe_int (fun _ _ => rfl)) pe_str (nomark _)) (pss_one (ps_ret (pe_tup (pa_cons (pe_ix (ix_tupK K) (pv 0) pe_int (fun _ _ => rfl)) (pa_cons (pe_ix (ix_tupK K) (pv 0) pe_int (fun _ _ => rfl)) pa_nil))))) pss_nil)
      (pss_cons (ps_set (i := 2) sc_law_span.nd rfl (.inl rfl) (pe_call ih hr (by rfl) T.g_law_span T.f_law_span.kp T.b_law_span .nil pass0 (pa_cons (pe_ix (ix_tupK K) (pv 0) pe_int (fun _ _ => rfl)) (pa_cons (pv 1) pa_nil))))
      (pss_cons (ps_if (pt_cmpR op_eq (pe_ix (ix_tupK K) (pv 0) pe_int (fun _ _ => rfl)) pe_str (nomark _)) (pss_one (ps_ret (pe_tup (pa_cons (pe_un un_neg (pe_ix (ix_tupK K) (pv 2) pe_int (fun _ _ => rfl))) (pa_cons (pe_un un_neg (pe_ix (ix_tupK K) (pv 2) pe_int (fun _ _ => rfl))) pa_nil))))) pss_nil)
      (pss_cons (ps_set (i := 3) sc_law_span.nd rfl (.inl rfl) (pe_call ih hr (by rfl) T.g_law_span T.f_law_span.kp T.b_law_span .nil pass0 (pa_cons (pe_ix (ix_tupK K) (pv 0) pe_int (fun _ _ => rfl)) (pa_cons (pv 1) pa_nil))))
      (pss_cons (ps_if (pt_cmpR op_eq (pe_ix (ix_tupK K) (pv 0) pe_int (fun _ _ => rfl)) pe_str (nomark _)) (pss_one (ps_ret (pe_tup (pa_cons (pe_op op_add (pe_ix (ix_tupK K) (pv 2) pe_int (fun _ _ => rfl)) (pe_ix (ix_tupK K) (pv 3) pe_int (fun _ _ => rfl))) (pa_cons (pe_op op_add (pe_ix (ix_tupK K) (pv 2) pe_int (fun _ _ => rfl)) (pe_ix (ix_tupK K) (pv 3) pe_int (fun _ _ => rfl))) pa_nil))))) pss_nil)
      (pss_cons (ps_if (pt_cmpR op_eq (pe_ix (ix_tupK K) (pv 0) pe_int (fun _ _ => rfl)) pe_str (nomark _)) (pss_one (ps_ret (pe_tup (pa_cons (pe_op op_sub (pe_ix (ix_tupK K) (pv 2) pe_int (fun _ _ => rfl)) (pe_ix (ix_tupK K) (pv 3) pe_int (fun _ _ => rfl))) (pa_cons (pe_op op_sub (pe_ix (ix_tupK K) (pv 2) pe_int (fun _ _ => rfl)) (pe_ix (ix_tupK K) (pv 3) pe_int (fun _ _ => rfl))) pa_nil))))) pss_nil)
      (pss_cons (ps_set (i := 4) sc_law_span.nd rfl (.inl rfl) (pe_lst (pa_cons (pe_op op_mulI (pe_ix (ix_tupK K) (pv 2) pe_int (fun _ _ => rfl)) (pe_ix (ix_tupK K) (pv 3) pe_int (fun _ _ => rfl))) (pa_cons (pe_op op_mulI (pe_ix (ix_tupK K) (pv 2) pe_int (fun _ _ => rfl)) (pe_ix (ix_tupK K) (pv 3) pe_int (fun _ _ => rfl))) (pa_cons (pe_op op_mulI (pe_ix (ix_tupK K) (pv 2) pe_int (fun _ _ => rfl)) (pe_ix (ix_tupK K) (pv 3) pe_int (fun _ _ => rfl))) (pa_cons (pe_op op_mulI (pe_ix (ix_tupK K) (pv 2) pe_int (fun _ _ => rfl)) (pe_ix (ix_tupK K) (pv 3) pe_int (fun _ _ => rfl))) pa_nil))))))
      (pss_one (ps_ret (pe_tup (pa_cons (pe_callB (c_minK K) (by rfl) T.z_min (by decide +kernel) (pa_cons (pv 4) pa_nil)) (pa_cons (pe_callB (c_maxK K) (by rfl) T.z_max (by decide +kernel) (pa_cons (pv 4) pa_nil)) pa_nil))))))))))))), ?_⟩
  try dsimp only [cxOf, Cx.nox, Cx.wish]
  simp only [L2.start, List.map_cons, List.map_nil, List.length_cons, List.length_nil, Nat.reduceAdd, Nat.reduceSub, List.replicate_succ, List.replicate_zero, List.cons_append, List.nil_append]
  obtain ⟨hp, hd, ok, has, wd, hn, hk, h⟩ := h
  cases f with
  | name m =>
    have hp : H p = some (.tup [.str "name", .str m]) := hp
    obtain ⟨v, hv⟩ := has m ok
    have hv2 : valV (wkv ws) (Sum.inr m) = some (.int v) := by rw [valV_wkv, hv]; rfl
    have e : spanF ws (.name m) = spanW v := by show spanW ((lookW ws m).getD 1) = _; rw [hv]; rfl
    rw [e] at h
    have := wd m v hv
    walk_at "ws"
    exact ⟨v, rfl, by omega, h⟩
  | num m =>
    have hp : H p = some (.tup [.str "number", .int m]) := hp
    walk_at "ws"
    exact h _ _ (by assumption) (by assumption) (by assumption)
  | turned f =>
    obtain ⟨a, hp, ha⟩ := hp
    have hn : f.size + 1 ≤ n + 1 := hn
    have hk : f.size + 1 ≤ 1000 := hk
    walk_at "ws"
    refine ⟨a, d, f, ws, N, rfl, ha, hd, ok, has, wd, by omega, by omega, fun q1 H1 n1 s1 e1 => ?_⟩
    have hp1 := s1 _ _ hp
    walk_at "ws"
    exact h _ _ (s1.free (by assumption)) (s1.trans (by assumption)) (by assumption)
  | plus f g =>
    obtain ⟨a, b, hp, ha, hb⟩ := hp
    have hn : f.size + g.size + 1 ≤ n + 1 := hn
    have hk : f.size + g.size + 1 ≤ 1000 := hk
    have := f.size_pos
    have := g.size_pos
    walk_at "ws"
    refine ⟨a, d, f, ws, N, rfl, ha, hd, ok.1, has, wd, by omega, by omega, fun q1 H1 n1 s1 e1 => ?_⟩
    have hp1 := s1 _ _ hp
    walk_at "ws"
    refine ⟨b, d, g, ws, N, rfl, hb.same s1, s1 _ _ hd, ok.2, has, wd, by omega, by omega, fun q2 H2 n2 s2 e2 => ?_⟩
    have e12 := s2 _ _ e1
    have hp2 := s2 _ _ hp1
    have s12 := s1.trans s2
    walk_at "ws"
    exact h _ _ (s12.free (by assumption)) (s12.trans (by assumption)) (by assumption)
  | less f g =>
    obtain ⟨a, b, hp, ha, hb⟩ := hp
    have hn : f.size + g.size + 1 ≤ n + 1 := hn
    have hk : f.size + g.size + 1 ≤ 1000 := hk
    have := f.size_pos
    have := g.size_pos
    walk_at "ws"
    refine ⟨a, d, f, ws, N, rfl, ha, hd, ok.1, has, wd, by omega, by omega, fun q1 H1 n1 s1 e1 => ?_⟩
    have hp1 := s1 _ _ hp
    walk_at "ws"
    refine ⟨b, d, g, ws, N, rfl, hb.same s1, s1 _ _ hd, ok.2, has, wd, by omega, by omega, fun q2 H2 n2 s2 e2 => ?_⟩
    have e12 := s2 _ _ e1
    have hp2 := s2 _ _ hp1
    have s12 := s1.trans s2
    walk_at "ws"
    exact h _ _ (s12.free (by assumption)) (s12.trans (by assumption)) (by assumption)
  | times f g =>
    obtain ⟨a, b, hp, ha, hb⟩ := hp
    have hn : f.size + g.size + 1 ≤ n + 1 := hn
    have hk : f.size + g.size + 1 ≤ 1000 := hk
    have := f.size_pos
    have := g.size_pos
    have m1 := span_bd wd ok.1
    have m2 := span_bd wd ok.2
    have i1 := mul_abs m1.1 m2.1 (by omega)
    have i2 := mul_abs m1.1 m2.2 (by omega)
    have i3 := mul_abs m1.2 m2.1 (by omega)
    have i4 := mul_abs m1.2 m2.2 (by omega)
    walk_at "ws"
    refine ⟨a, d, f, ws, N, rfl, ha, hd, ok.1, has, wd, by omega, by omega, fun q1 H1 n1 s1 e1 => ?_⟩
    have hp1 := s1 _ _ hp
    walk_at "ws"
    refine ⟨b, d, g, ws, N, rfl, hb.same s1, s1 _ _ hd, ok.2, has, wd, by omega, by omega, fun q2 H2 n2 s2 e2 => ?_⟩
    have e12 := s2 _ _ e1
    have hp2 := s2 _ _ hp1
    have s12 := s1.trans s2
    walk_at "ws"
    refine w_I i1 ?_
    walk_at "ws"
    refine w_I i2 ?_
    walk_at "ws"
    refine w_I i3 ?_
    walk_at "ws"
    refine w_I i4 ?_
    walk_at "ws"
    rename_i p3 H3 n3 s3 e3
    have e3 : H3 p3 = some (.lst ([(spanF ws f).1 * (spanF ws g).1, (spanF ws f).1 * (spanF ws g).2, (spanF ws f).2 * (spanF ws g).1, (spanF ws f).2 * (spanF ws g).2].map V.int)) := e3
    refine w_minL (SqL.of e3) (Nat.succ_pos _) fun m1 k1 k2 => ?_
    walk_at "ws"
    refine w_maxL (SqL.of e3) (Nat.succ_pos _) fun m2 k3 k4 => ?_
    rw [min_is k1 k2, max_is k3 k4]
    have s13 := s12.trans s3
    walk_at "ws"
    exact h _ _ (s13.free (by assumption)) (s13.trans (by assumption)) (by assumption)
theorem all_law_span (T : Top K mg) : ∀ n : Nat, FnOk P w K mg base CX0 (2 + n) T.a_law_span T.d_law_span ["_law_formula", "_law_widths"] (sp_law_span K n)
  | 0 => T.f_law_span.ok (k := 1) sc_law_span (fun _ _ _ _ h => (no_law_span h).elim) (fun _ _ _ _ _ _ _ _ _ h => (no_law_span h).elim)
  | n + 1 => rec_law_span T n (all_law_span T n)
theorem ok_law_span (T : Top K mg) : FnOk P w K mg base CX0 62 T.a_law_span T.d_law_span ["_law_formula", "_law_widths"] (sp_law_span K 60) := all_law_span T 60

/-! rows that are good -/
def isGate : Row → Prop
  | .inv _ => True
  | .bin _ _ _ => True
  | _ => False
def sp_law_gate (K : PySem.W.Frag) : Sp := fun vs H Q _ => ∃ (p : Addr) (r : Row) (i : Nat) (N : Str → Prop), vs = [.ref p, .int (i : Int)] ∧ RowAt H p r ∧ isGate r ∧ RowOk N i r ∧ ∀ H', Same H H' → Q (.bl true) H'
theorem ok_law_gate (T : Top K mg) : FnOk P w K mg base CX0 2 T.a_law_gate T.d_law_gate ["_law_row", "_law_at"] (sp_law_gate K) := by
  refine T.f_law_gate.ok sc_law_gate (fun vs H Q E h => ?_) (fun cdv A outer s H vs Q E hr h => ?_)
  · obtain ⟨p, r, i, N, rfl, _⟩ := h
    rfl
  obtain ⟨p, r, i, N, rfl, h⟩ := h
  refine ⟨_, (pss_cons (ps_set (i := 2) sc_law_gate.nd rfl (.inl rfl) (pe_slice sl_tup (pv 0) (po_some pe_int) po_none))
      (pss_cons (ps_if (pt_cmpR op_eq (pe_ix (ix_tupK K) (pv 0) pe_int (fun _ _ => rfl)) pe_str (nomark _)) (pss_one (ps_set (i := 3) sc_law_gate.nd rfl (.inl rfl) (pe_cmpR op_eq (pe_callB (c_lenK K) (by rfl) T.z_len PySem.boot_len (pa_cons (pv 2) pa_nil)) pe_int (nomark _)))) (pss_one (ps_set (i := 3) sc_law_gate.nd rfl (.inl rfl) (pe_and (pe_cmpR (op_inK K) (pe_ix (ix_tupK K) (pv 0) pe_int (fun _ _ => rfl)) (pe_tup (pa_cons pe_str (pa_cons pe_str (pa_cons pe_str pa_nil)))) (by rfl)) (pe_one (pe_cmpR op_eq (pe_callB (c_lenK K) (by rfl) T.z_len PySem.boot_len (pa_cons (pv 2) pa_nil)) pe_int (nomark _)))))))
      (pss_cons (ps_for PassesOwn.never rfl (pi_tup (pv 2)) (pg_name (i := 4) sc_law_gate.nd rfl (.inl rfl))
      (pss_one (ps_set (i := 3) sc_law_gate.nd rfl (.inl rfl) (pe_and (pv 3) (pe_and (pe_call (ok_law_whole T) (hr.mono (by decide)) (by rfl) T.g_law_whole T.f_law_whole.kp T.b_law_whole .nil pass0 (pa_cons (pv 4) pa_nil)) (pe_and (pe_cmpR op_le pe_int (pv 4) (nomark _)) (pe_one (pe_cmpR op_lt (pv 4) (pv 1) (nomark _)))))))))
      (pss_one (ps_ret (pv 3)))))), ?_⟩
  try dsimp only [cxOf, Cx.nox, Cx.wish]
  simp only [L2.start, List.map_cons, List.map_nil, List.length_cons, List.length_nil, Nat.reduceAdd, Nat.reduceSub, List.replicate_succ, List.replicate_zero, List.cons_append, List.nil_append]
  obtain ⟨hp, hg, ok, h⟩ := h
  unfold RowAt at hp
  have e2 : decide (V.int 2 = V.int 2) = true := decide_eq_true rfl
  have e1 : decide (V.int 1 = V.int 1) = true := decide_eq_true rfl
  have loop : ∀ (q : Addr) (xs : List Int) (H1 : Hp) (b : Bool) (y3 : Option V), Same H H1 → SqT K H1 q (xs.map V.int) → (∀ x ∈ xs, 0 ≤ x ∧ x < (i : Int)) → b = true → ∀ (t : TS) (D : Ends), (∀ (j : Nat) (x : Int) (b : Bool) (G : Hp), xs[j]? = some x → b = true → Same H1 G → ∀ D2 : Ends, (∀ b', b' = true → D2.nx [some (.ref p), some (.int (i : Int)), some (.ref q), some (.bl b'), some (.int x)] G) → t D2 [some (.ref p), some (.int (i : Int)), some (.ref q), some (.bl b), some (.int x)] G) →
      (∀ (b : Bool) (y4 : Option V), b = true → D.nx [some (.ref p), some (.int (i : Int)), some (.ref q), some (.bl b), y4] H1) → ForB (Itt K q) (gName 4) t D [some (.ref p), some (.int (i : Int)), some (.ref q), some (.bl b), y3] H1 := fun q xs H1 b y3 s1 hq hx hb t D ht hD => by
    refine for_t (xs.map V.int) (fun j σ' G => ∃ (b : Bool) (y4 : Option V), σ' = [some (.ref p), some (.int (i : Int)), some (.ref q), some (.bl b), y4] ∧ G = H1 ∧ b = true) ⟨b, _, rfl, rfl, hb⟩ (fun j σ' G _ k => ?_) (fun j x σ' G hx2 k => ?_) (fun σ' G k => ?_)
    · obtain ⟨b, y4, rfl, rfl, _⟩ := k
      exact hq
    · obtain ⟨b, y4, rfl, rfl, hb⟩ := k
      obtain ⟨z, hz, rfl⟩ := get_map hx2
      exact ht j z b G hz hb (Same.refl _) _ (fun b' hb' => ⟨b', _, rfl, rfl, hb'⟩)
    · obtain ⟨b, y4, rfl, rfl, hb⟩ := k
      exact hD b y4 hb
  have turn : ∀ (x : Int), 0 ≤ x → x < (i : Int) → decide (x < (i : Int)) = true := fun x h0 h1 => decide_eq_true h1
  cases r with
  | inv u =>
    have hu : u < i := ok
    walk_at "ws"
    rename_i q H1 n1 s1 e1q
    refine loop q [(u : Int)] H1 _ _ s1 (SqT.of e1q) (fun x m => by rw [List.mem_singleton.mp m]; omega) e1 _ _ (fun j x b G hx hb sG D2 k => ?_) (fun b y4 hb => ?_)
    · have hx0 : x = (u : Int) := List.mem_singleton.mp (List.mem_of_getElem? hx)
      subst hb
      walk_at "ws"
      exact k _ (decide_eq_true (by omega))
    · subst hb
      walk_at "ws"
      exact h _ s1
  | bin o u v =>
    have hu := ok.1
    have hv := ok.2
    cases o <;>
    · walk_at "ws"
      rename_i q H1 n1 s1 e1q p2 H2 n2 s2 e2q
      refine loop q [(u : Int), (v : Int)] H2 _ _ (s1.trans s2) (SqT.of (s2 _ _ e1q)) (fun x m => by rcases List.mem_cons.mp m with z | z; rw [z]; omega; rw [List.mem_singleton.mp z]; omega) e2 _ _ (fun j x b G hx hb sG D2 k => ?_) (fun b y4 hb => ?_)
      · have hx0 : 0 ≤ x ∧ x < (i : Int) := by
          rcases List.mem_cons.mp (List.mem_of_getElem? hx) with z | z
          · rw [z]; omega
          · rw [List.mem_singleton.mp z]; omega
        subst hb
        walk_at "ws"
        exact k _ (decide_eq_true (by omega))
      · subst hb
        walk_at "ws"
        exact h _ (s1.trans s2)
  | _ => exact hg.elim
def sp_law_good (K : PySem.W.Frag) : Sp := fun vs H Q _ => ∃ (a b : Addr) (rs : List Row) (nm : List Str), vs = [.ref a, .ref b] ∧ RowsM H a rs ∧ SqL K H b (nm.map V.str) ∧ RowsOk (· ∈ nm) rs ∧ NoLats rs ∧ rs.length ≤ 900000 ∧ ∀ H', Same H H' → Q (.bl true) H'
theorem in_names {n : Str} {nm : List Str} (h : n ∈ nm) : inV (.str n) (nm.map V.str) = true := by
  unfold inV
  refine List.any_eq_true.mpr ⟨.str n, List.mem_map.mpr ⟨n, h, rfl⟩, ?_⟩
  show (n == n) = true
  exact beq_self_eq_true n
theorem flat_names (nm : List Str) : (nm.map V.str).all flatV = true := by
  rw [List.all_eq_true]
  intro x hx
  obtain ⟨n, _, rfl⟩ := List.mem_map.mp hx
  rfl
theorem ok_law_good (T : Top K mg) : FnOk P w K mg base CX0 3 T.a_law_good T.d_law_good ["_law_rows", "_law_names_here"] (sp_law_good K) := by
  refine T.f_law_good.ok sc_law_good (fun vs H Q E h => ?_) (fun cdv A outer s H vs Q E hr h => ?_)
  · obtain ⟨a, b, rs, nm, rfl, _⟩ := h
    rfl
  obtain ⟨a, b, rs, nm, rfl, h⟩ := h
  refine ⟨_, (pss_cons (ps_if (pt_not (pt_val (pe_callB (c_isiK K) (by rfl) T.z_isinstance (by decide +kernel) (pa_cons (pv 0) (pa_cons (pe_bltn (v := .ty "list") (by rfl) T.z_list (by decide +kernel) rfl) pa_nil))))) (pss_one (ps_ret pe_bl)) pss_nil)
      (pss_cons (ps_for PassesOwn.never rfl (pi_enum (by rfl) T.z_enumerate (pa_cons (pv 0) pa_nil)) (pg_tup (by rfl) (pgs_cons (pg_name (i := 2) sc_law_good.nd rfl (.inl rfl)) (pgs_cons (pg_name (i := 3) sc_law_good.nd rfl (.inl rfl)) pgs_nil)))
      (pss_cons (ps_if (PW.pt (pw_or (pt_not (pt_val (pe_callB (c_isiK K) (by rfl) T.z_isinstance (by decide +kernel) (pa_cons (pv 3) (pa_cons (pe_bltn (v := .ty "tuple") (by rfl) T.z_tuple (by decide +kernel) rfl) pa_nil))))) (pw_or (pt_cmpR op_lt (pe_callB (c_lenK K) (by rfl) T.z_len PySem.boot_len (pa_cons (pv 3) pa_nil)) pe_int (nomark _)) (pw_or1 (pt_not (pt_val (pe_callB (c_isiK K) (by rfl) T.z_isinstance (by decide +kernel) (pa_cons (pe_ix (ix_tupK K) (pv 3) pe_int (fun _ _ => rfl)) (pa_cons (pe_bltn (v := .ty "str") (by rfl) T.z_str (by decide +kernel) rfl) pa_nil))))))))) (pss_one (ps_ret pe_bl)) pss_nil)
      (pss_one (ps_if (pt_cmpR op_eq (pe_ix (ix_tupK K) (pv 3) pe_int (fun _ _ => rfl)) pe_str (nomark _)) (pss_one (ps_if (PW.pt (pw_or (pt_cmpR op_ne (pe_callB (c_lenK K) (by rfl) T.z_len PySem.boot_len (pa_cons (pv 3) pa_nil)) pe_int (nomark _)) (pw_or (pt_not (pt_val (pe_call (ok_law_whole T) (hr.mono (by decide)) (by rfl) T.g_law_whole T.f_law_whole.kp T.b_law_whole .nil pass0 (pa_cons (pe_ix (ix_tupK K) (pv 3) pe_int (fun _ _ => rfl)) pa_nil)))) (pw_or1 (pt_cmpR (op_niK K) (pe_ix (ix_tupK K) (pv 3) pe_int (fun _ _ => rfl)) (pe_tup (pa_cons pe_int (pa_cons pe_int pa_nil))) (by rfl)))))) (pss_one (ps_ret pe_bl)) pss_nil)) (pss_one (ps_if (pt_cmpR op_eq (pe_ix (ix_tupK K) (pv 3) pe_int (fun _ _ => rfl)) pe_str (nomark _)) (pss_one (ps_if (PW.pt (pw_or (pt_cmpR op_ne (pe_callB (c_lenK K) (by rfl) T.z_len PySem.boot_len (pa_cons (pv 3) pa_nil)) pe_int (nomark _)) (pw_or (pt_cmpR (op_niK K) (pe_ix (ix_tupK K) (pv 3) pe_int (fun _ _ => rfl)) (pv 1) (by rfl)) (pw_or (pt_not (pt_val (pe_call (ok_law_whole T) (hr.mono (by decide)) (by rfl) T.g_law_whole T.f_law_whole.kp T.b_law_whole .nil pass0 (pa_cons (pe_ix (ix_tupK K) (pv 3) pe_int (fun _ _ => rfl)) pa_nil)))) (pw_or1 (pt_not (pt_chain op_le op_lt pe_int (pe_ix (ix_tupK K) (pv 3) pe_int (fun _ _ => rfl)) pe_int))))))) (pss_one (ps_ret pe_bl)) pss_nil)) (pss_one (ps_if (pt_not (pt_val (pe_call (ok_law_gate T) (hr.mono (by decide)) (by rfl) T.g_law_gate T.f_law_gate.kp T.b_law_gate .nil pass0 (pa_cons (pv 3) (pa_cons (pv 2) pa_nil))))) (pss_one (ps_ret pe_bl)) pss_nil))))))))
      (pss_one (ps_ret pe_bl)))), ?_⟩
  try dsimp only [cxOf, Cx.nox, Cx.wish]
  simp only [L2.start, List.map_cons, List.map_nil, List.length_cons, List.length_nil, Nat.reduceAdd, Nat.reduceSub, List.replicate_succ, List.replicate_zero, List.cons_append, List.nil_append]
  obtain ⟨⟨ps, ha, hA⟩, hN, ok, nl, hlen, h⟩ := h
  have hpl := hA.1
  walk_at "ws"
  refine for_e (ps.map V.ref) (fun i σ' G => ∃ (y2 y3 : Option V), σ' = [some (.ref a), some (.ref b), y2, y3] ∧ Same H G) ⟨_, _, rfl, Same.refl _⟩ (fun i σ' G _ q => ?_) (fun i x σ' G0 G hx q sG => ?_) (fun σ' G q => ?_)
  · obtain ⟨y2, y3, rfl, sm⟩ := q
    exact SqL.of (sm _ _ ha)
  · obtain ⟨y2, y3, rfl, sm0⟩ := q
    have sm := sm0.trans sG
    obtain ⟨p, hp, rfl⟩ := get_map hx
    obtain ⟨r, hr, hrow⟩ := hA.get hp
    have okr := ok i r hr
    have nlr := nl r (List.mem_of_getElem? hr)
    have hrG0 : G p = some (.tup (rowV r)) := sm _ _ hrow
    have haG := sm.seq hN
    cases r with
    | fix c =>
      have hrG : G p = some (.tup [.str "fix", .int c]) := hrG0
      have hc : c = 0 ∨ c = 1 := okr
      rcases hc with rfl | rfl
      · walk_at "ws"
        exact ⟨_, _, rfl, sm.trans (by assumption)⟩
      · walk_at "ws"
        exact ⟨_, _, rfl, sm.trans (by assumption)⟩
    | inn n k =>
      have hk : k < 64 := okr.2
      have hin := in_names okr.1
      have hrG : G p = some (.tup [.str "in", .str n, .int (k : Int)]) := hrG0
      walk_at "ws"
      refine w_niL haG rfl (flat_names nm) ?_
      rw [hin]
      walk_at "ws"
      exact ⟨_, _, rfl, sm⟩
    | inv u =>
      have hrG : G p = some (.tup [.str "not", .int (u : Int)]) := hrG0
      walk_at "ws"
      refine ⟨p, .inv u, i, (· ∈ nm), rfl, hrG0, True.intro, okr, fun G2 s2 => ?_⟩
      walk_at "ws"
      exact ⟨_, _, rfl, sm.trans s2⟩
    | bin o u v =>
      have hrG : G p = some (.tup [.str (bopS o), .int (u : Int), .int (v : Int)]) := hrG0
      cases o <;>
      · walk_at "ws"
        refine ⟨p, .bin _ u v, i, (· ∈ nm), rfl, hrG0, True.intro, okr, fun G2 s2 => ?_⟩
        walk_at "ws"
        exact ⟨_, _, rfl, sm.trans s2⟩
    | lat u => exact nlr.elim
  · obtain ⟨y2, y3, rfl, sm⟩ := q
    walk_at "ws"
    exact h _ sm

/-! bits by going through rows -/
theorem or_max {x y : Int} (hx : is01 x) (hy : is01 y) : (if y > x then y else x) = bopI .or x y := by
  rcases hx with rfl | rfl <;> rcases hy with rfl | rfl <;> decide
def sp_law_bits (K : PySem.W.Frag) : Sp := fun vs H Q _ => ∃ (a d : Addr) (rs : List Row) (ws : List (Str × Int)) (N : Str → Prop), vs = [.ref a, .ref d] ∧ RowsL K H a rs ∧ H d = some (.dK (wkv ws)) ∧
  RowsOk N rs ∧ NoLats rs ∧ Has N ws ∧ rs.length ≤ 900000 ∧ ∀ p H', H p = none → Same H H' → H' p = some (.lst ((toldL ws rs).map V.int)) → Q (.ref p) H'
theorem ok_law_bits (T : Top K mg) : FnOk P w K mg base CX0 1 T.a_law_bits T.d_law_bits ["_law_rows", "_law_words_here"] (sp_law_bits K) := by
  refine T.f_law_bits.ok sc_law_bits (fun vs H Q E h => ?_) (fun cdv A outer s H vs Q E hr h => ?_)
  · obtain ⟨a, d, rs, ws, N, rfl, _⟩ := h
    rfl
  obtain ⟨a, d, rs, ws, N, rfl, h⟩ := h
  refine ⟨_, (pss_cons (ps_set (i := 2) sc_law_bits.nd rfl (.inl rfl) (pe_lst pa_nil))
      (pss_cons (ps_for PassesOwn.never rfl (pi_list (pv 0)) (pg_name (i := 3) sc_law_bits.nd rfl (.inl rfl))
      (pss_one (ps_if (pt_cmpR op_eq (pe_ix (ix_tupK K) (pv 3) pe_int (fun _ _ => rfl)) pe_str (nomark _)) (pss_one (ps_expr (pe_bm PySem.F.plainAttrs_list PySem.F.slot_list_append PySem.F.type_list_append mt_append (pv 2) (pa_cons (pe_ix (ix_tupK K) (pv 3) pe_int (fun _ _ => rfl)) pa_nil)))) (pss_one (ps_if (pt_cmpR op_eq (pe_ix (ix_tupK K) (pv 3) pe_int (fun _ _ => rfl)) pe_str (nomark _)) (pss_one (ps_expr (pe_bm PySem.F.plainAttrs_list PySem.F.slot_list_append PySem.F.type_list_append mt_append (pv 2) (pa_cons (pe_op op_mod (pe_op op_divP (pe_dget (hu_of hr) (pv 1) (pe_ix (ix_tupK K) (pv 3) pe_int (fun _ _ => rfl)) (fun _ _ => rfl)) (pe_op op_shlK pe_int (pe_ix (ix_tupK K) (pv 3) pe_int (fun _ _ => rfl)))) pe_int) pa_nil)))) (pss_one (ps_if (pt_cmpR op_eq (pe_ix (ix_tupK K) (pv 3) pe_int (fun _ _ => rfl)) pe_str (nomark _)) (pss_one (ps_expr (pe_bm PySem.F.plainAttrs_list PySem.F.slot_list_append PySem.F.type_list_append mt_append (pv 2) (pa_cons (pe_op op_sub pe_int (pe_ix (ix_listK K) (pv 2) (pe_ix (ix_tupK K) (pv 3) pe_int (fun _ _ => rfl)) (fun _ _ => rfl))) pa_nil)))) (pss_one (ps_if (pt_cmpR op_eq (pe_ix (ix_tupK K) (pv 3) pe_int (fun _ _ => rfl)) pe_str (nomark _)) (pss_one (ps_expr (pe_bm PySem.F.plainAttrs_list PySem.F.slot_list_append PySem.F.type_list_append mt_append (pv 2) (pa_cons (pe_op op_mulI (pe_ix (ix_listK K) (pv 2) (pe_ix (ix_tupK K) (pv 3) pe_int (fun _ _ => rfl)) (fun _ _ => rfl)) (pe_ix (ix_listK K) (pv 2) (pe_ix (ix_tupK K) (pv 3) pe_int (fun _ _ => rfl)) (fun _ _ => rfl))) pa_nil)))) (pss_one (ps_if (pt_cmpR op_eq (pe_ix (ix_tupK K) (pv 3) pe_int (fun _ _ => rfl)) pe_str (nomark _)) (pss_one (ps_expr (pe_bm PySem.F.plainAttrs_list PySem.F.slot_list_append PySem.F.type_list_append mt_append (pv 2) (pa_cons (pe_callB (c_max2 rfl) (by rfl) T.z_max (by decide +kernel) (pa_cons (pe_ix (ix_listK K) (pv 2) (pe_ix (ix_tupK K) (pv 3) pe_int (fun _ _ => rfl)) (fun _ _ => rfl)) (pa_cons (pe_ix (ix_listK K) (pv 2) (pe_ix (ix_tupK K) (pv 3) pe_int (fun _ _ => rfl)) (fun _ _ => rfl)) pa_nil))) pa_nil)))) (pss_one (ps_expr (pe_bm PySem.F.plainAttrs_list PySem.F.slot_list_append PySem.F.type_list_append mt_append (pv 2) (pa_cons (pe_op op_mod (pe_op op_add (pe_ix (ix_listK K) (pv 2) (pe_ix (ix_tupK K) (pv 3) pe_int (fun _ _ => rfl)) (fun _ _ => rfl)) (pe_ix (ix_listK K) (pv 2) (pe_ix (ix_tupK K) (pv 3) pe_int (fun _ _ => rfl)) (fun _ _ => rfl))) pe_int) pa_nil)))))))))))))))
      (pss_one (ps_ret (pv 2))))), ?_⟩
  try dsimp only [cxOf, Cx.nox, Cx.wish]
  simp only [L2.start, List.map_cons, List.map_nil, List.length_cons, List.length_nil, Nat.reduceAdd, Nat.reduceSub, List.replicate_succ, List.replicate_zero, List.cons_append, List.nil_append]
  obtain ⟨⟨ps, hS, hA⟩, hd, ok, nl, has, hlen, h⟩ := h
  have hpl := hA.1
  walk_at "ws"
  rename_i o H1 n1 s1 e1
  refine for_l (ps.map V.ref) (fun i σ' H' => ∃ y, σ' = [some (.ref a), some (.ref d), some (.ref o), y] ∧ Same H H' ∧ H' o = some (.lst ((toldL ws (rs.take i)).map V.int))) ⟨_, rfl, s1, e1⟩ (fun i σ' H' _ q => ?_) (fun i x σ' H' hx q => ?_) (fun σ' H' q => ?_)
  · obtain ⟨y, rfl, sm, e⟩ := q
    exact sm.seq hS
  · obtain ⟨y, rfl, sm, e⟩ := q
    obtain ⟨p, hp, rfl⟩ := get_map hx
    obtain ⟨r, hr', hpr⟩ := hA.get hp
    have hi := (List.getElem?_eq_some_iff.mp hr').1
    have hl : (toldL ws (rs.take i)).length = i := by rw [toldL_len, List.length_take]; omega
    have okr := ok i r hr'
    have nlr := nl r (List.mem_of_getElem? hr')
    have h01 := toldL_01 ws ok i
    have fin : ∀ v : Int, v = gateI ws (toldL ws (rs.take i)) r → ∃ y : Option V, [some (V.ref a), some (.ref d), some (.ref o), some (.ref p)] = [some (.ref a), some (.ref d), some (.ref o), y] ∧ Same H (upd H' o (.lst ((toldL ws (rs.take i)).map V.int ++ [.int v]))) ∧ (upd H' o (.lst ((toldL ws (rs.take i)).map V.int ++ [.int v]))) o = some (.lst ((toldL ws (rs.take (i + 1))).map V.int)) := fun v hv => by
      refine ⟨_, rfl, same_mut sm n1, ?_⟩
      rw [upd_same, take_snoc hr', toldL_snoc, List.map_append, hv]
      rfl
    have hz : ((toldL ws (rs.take i)).map V.int).length ≤ 900000 := by rw [List.length_map]; omega
    have hpr' : H' p = some (.tup (rowV r)) := sm _ _ hpr
    have hd' := sm _ _ hd
    generalize hbs : toldL ws (rs.take i) = bs at *
    cases r with
    | fix b =>
      walk_at "ws"
      exact fin b rfl
    | inn n k =>
      obtain ⟨v, hv⟩ := has n okr.1
      have hk : k < 64 := okr.2
      have hv2 : valV (wkv ws) (Sum.inr n) = some (.int v) := by rw [valV_wkv, hv]; rfl
      walk_at "ws"
      refine fin _ ?_
      show v / 2 ^ k % 2 = (lookW ws n).getD 0 / 2 ^ k % 2
      rw [hv]
      rfl
    | inv u =>
      have hu : u < i := okr
      walk_at "ws"
      refine w_ixL (SqL.of e) (bit_get (by omega)) ?_
      walk_at "ws"
      exact fin _ rfl
    | bin c u v =>
      have hu := okr.1
      have hv := okr.2
      have h1 := all01_get h01 u
      have h2 := all01_get h01 v
      have e1' := bit_get (bs := bs) (a := u) (by omega)
      have e2' := bit_get (bs := bs) (a := v) (by omega)
      cases c with
      | and =>
        walk_at "ws"
        refine w_ixL (SqL.of e) e1' ?_
        walk_at "ws"
        refine w_ixL (SqL.of e) e2' ?_
        walk_at "ws"
        refine w_I (mul_sm (by rcases h1 with z | z <;> rw [z] <;> decide)) ?_
        walk_at "ws"
        exact fin _ rfl
      | or =>
        walk_at "ws"
        refine w_ixL (SqL.of e) e1' ?_
        walk_at "ws"
        refine w_ixL (SqL.of e) e2' ?_
        walk_at "ws"
        exact fin _ (or_max h1 h2)
      | xor =>
        walk_at "ws"
        refine w_ixL (SqL.of e) e1' ?_
        walk_at "ws"
        refine w_ixL (SqL.of e) e2' ?_
        walk_at "ws"
        exact fin _ rfl
    | lat u => exact nlr.elim
  · obtain ⟨y, rfl, sm, e⟩ := q
    rw [List.length_map, hpl, List.take_of_length_le (Nat.le_refl _)] at e
    walk_at "ws"
    exact h o H' n1 sm e

/-! a number told by its wires -/
theorem getD01 {bs : List Int} (h : ∀ x ∈ bs, x = 0 ∨ x = 1) (u : Nat) : bs.getD u 0 = 0 ∨ bs.getD u 0 = 1 := by
  by_cases c : u < bs.length
  · rw [List.getD_eq_getElem?_getD, List.getElem?_eq_getElem c]
    exact h _ (List.getElem_mem c)
  · rw [List.getD_eq_getElem?_getD, List.getElem?_eq_none (by omega)]
    exact .inl rfl
theorem valI_take {bs : List Int} {k : Nat} {x : Int} (h : bs[k]? = some x) : valI (bs.take (k + 1)) = valI (bs.take k) + x * 2 ^ k := by
  have hk : k < bs.length := (List.getElem?_eq_some_iff.mp h).1
  rw [List.take_add_one, h]
  show valI (bs.take k ++ [x]) = _
  rw [valI_snoc, List.length_take, Nat.min_eq_left (Nat.le_of_lt hk)]
def sp_law_number (K : PySem.W.Frag) : Sp := fun vs H Q _ => ∃ (a o : Addr) (bs : List Int) (us : List Nat) (b : Bool), vs = [.ref a, .ref o, .bl b] ∧ SqL K H a (bs.map V.int) ∧ NatsAt H o us ∧ us ≠ [] ∧ us.length ≤ 1000 ∧ bs.length ≤ 900000 ∧ (∀ x ∈ bs, x = 0 ∨ x = 1) ∧ (∀ u ∈ us, u < bs.length) ∧
  ∀ H', Same H H' → Q (.int (numI (us.map fun u => bs.getD u 0) b)) H'
theorem ok_law_number (T : Top K mg) : FnOk P w K mg base CX0 1 T.a_law_number T.d_law_number ["_law_bits_here", "_law_outs", "_law_below"] (sp_law_number K) := by
  refine T.f_law_number.ok sc_law_number (fun vs H Q E h => ?_) (fun cdv A outer s H vs Q E hr h => ?_)
  · obtain ⟨a, o, bs, us, b, rfl, _⟩ := h
    rfl
  obtain ⟨a, o, bs, us, b, rfl, h⟩ := h
  refine ⟨_, (pss_cons (ps_set (i := 3) sc_law_number.nd rfl (.inl rfl) pe_int)
      (pss_cons (ps_for PassesOwn.never rfl (pi_range1 (by rfl) T.z_range (pa_cons (pe_callB (c_lenK K) (by rfl) T.z_len PySem.boot_len (pa_cons (pv 1) pa_nil)) pa_nil)) (pg_name (i := 4) sc_law_number.nd rfl (.inl rfl))
      (pss_one (ps_set (i := 3) sc_law_number.nd rfl (.inl rfl) (pe_op op_add (pv 3) (pe_op op_mulI (pe_ix (ix_listK K) (pv 0) (pe_ix (ix_listK K) (pv 1) (pv 4) (fun _ _ => rfl)) (fun _ _ => rfl)) (pe_op op_shl pe_int (pv 4)))))))
      (pss_cons (ps_if (pt_val (pv 2)) (pss_one (ps_set (i := 3) sc_law_number.nd rfl (.inl rfl) (pe_op op_sub (pv 3) (pe_op op_mulI (pe_ix (ix_listK K) (pv 0) (pe_ix (ix_listK K) (pv 1) (pe_un un_neg pe_int) (fun _ _ => rfl)) (fun _ _ => rfl)) (pe_op op_shl pe_int (pe_callB (c_lenK K) (by rfl) T.z_len PySem.boot_len (pa_cons (pv 1) pa_nil))))))) pss_nil)
      (pss_one (ps_ret (pv 3)))))), ?_⟩
  try dsimp only [cxOf, Cx.nox, Cx.wish]
  simp only [L2.start, List.map_cons, List.map_nil, List.length_cons, List.length_nil, Nat.reduceAdd, Nat.reduceSub, List.replicate_succ, List.replicate_zero, List.cons_append, List.nil_append]
  obtain ⟨hS, ho, hne, hul, hbl, h01, hlt, h⟩ := h
  unfold NatsAt at ho
  have hml : ((natI us).map V.int).length = us.length := by rw [List.length_map]; exact List.length_map ..
  have hml2 : (us.map fun u => bs.getD u 0).length = us.length := List.length_map ..
  walk_at "ws"
  refine for_r (fun i σ' H' => ∃ y4, σ' = [some (.ref a), some (.ref o), some (.bl b), some (.int (valI ((us.map fun u => bs.getD u 0).take i))), y4] ∧ Same H H') ⟨_, rfl, Same.refl _⟩ (fun i σ' H' hi p => ?_) (fun σ' H' p => ?_)
  · obtain ⟨y4, rfl, sm⟩ := p
    have hi : i < us.length := by omega
    have ho' := sm _ _ ho
    have hu : us[i]? = some us[i] := List.getElem?_eq_getElem hi
    have hui := hlt us[i] (List.getElem_mem hi)
    have hb := getD01 h01 us[i]
    have hx : (us.map fun u => bs.getD u 0)[i]? = some (bs.getD us[i] 0) := by rw [List.getElem?_map, hu]; rfl
    walk_at "ws"
    refine w_ixL (SqL.of ho') (atI_nat (by rw [List.getElem?_map]; unfold natI; rw [List.getElem?_map, hu]; rfl)) ?_
    walk_at "ws"
    refine w_ixL (sm.seq hS) (bit_get hui) ?_
    walk_at "ws"
    have hbb : -1000000000000 ≤ bs.getD us[i] 0 ∧ bs.getD us[i] 0 ≤ 1000000000000 := by rcases hb with z | z <;> omega
    refine ⟨some (.int (i : Int)), ?_, sm⟩
    rw [valI_take hx, Int.toNat_natCast, Int.one_mul]
    rfl
  · obtain ⟨y4, rfl, sm⟩ := p
    have ho' := sm _ _ ho
    rw [hml, List.take_of_length_le (by omega)]
    have hlast : (natI us).getLastD 0 = ((us.getLast hne : Nat) : Int) ∧ (us.map fun u => bs.getD u 0).getLastD 0 = bs.getD (us.getLast hne) 0 := by
      obtain ⟨r, x, rfl⟩ : ∃ r x, us = r ++ [x] := ⟨us.dropLast, us.getLast hne, (List.dropLast_concat_getLast hne).symm⟩
      unfold natI
      simp
    have hne2 : natI us ≠ [] := fun z => hne (List.map_eq_nil_iff.mp z)
    have hne3 : (us.map fun u => bs.getD u 0) ≠ [] := fun z => hne (List.map_eq_nil_iff.mp z)
    walk_at "ws"
    · rename_i hb
      have e := h H' sm
      unfold numI at e
      rw [if_pos ⟨hb, hne3⟩, hlast.2, hml2] at e
      have hbb : -1000000000000 ≤ bs.getD (us.getLast hne) 0 ∧ bs.getD (us.getLast hne) 0 ≤ 1000000000000 := by rcases getD01 h01 (us.getLast hne) with z | z <;> omega
      refine w_ixL (SqL.of ho') (atI_lastD hne2) ?_
      rw [hlast.1]
      refine w_ixL (sm.seq hS) (bit_get (hlt _ (List.getLast_mem hne))) ?_
      walk_at "ws"
      rw [hml, Int.toNat_natCast, Int.one_mul]
      exact e
    · rename_i hb
      have e := h H' sm
      unfold numI at e
      rw [if_neg (fun z => by rw [hb] at z; cases z.1)] at e
      exact e

/-! numbers within the widths, drawn -/
theorem w_lockK {t : TS} {D : Ends} {σ : L2.St} {H : Hp} {d : Addr} {kvs : List (Key × V)} (h : H d = some (.dK kvs)) (q : ∀ od, t ⟨fun σ' H' => H' d = some (.frz od (.dK kvs)) ∧ D.nx σ' (upd H' d (.dK kvs)), fun v H' => H' d = some (.frz od (.dK kvs)) ∧ D.rt v (upd H' d (.dK kvs)), fun σ' H' => H' d = some (.frz od (.dK kvs)) ∧ D.bk σ' (upd H' d (.dK kvs)), fun σ' H' => H' d = some (.frz od (.dK kvs)) ∧ D.ct σ' (upd H' d (.dK kvs))⟩ σ (upd H d (.frz od (.dK kvs)))) : tLock t D σ H := ⟨d, _, h, trivial, q⟩
theorem w_enumK {ta : TA} {σ : L2.St} {H : Hp} {R : It → Hp → Prop} (h : ta σ H fun vs H1 => ∃ d o kvs, vs = [.ref d] ∧ H1 d = some (.frz o (.dK kvs)) ∧ R (Ikp d o kvs) H1) : iEnumK ta σ H R := h
theorem w_DG1F {a : Addr} {o : Obj} {kvs : List (Key × V)} {n : Str} {v : V} {H : Hp} {Q : VK} (e : H a = some (.frz o (.dK kvs))) (g : valV kvs (Sum.inr n) = some v) (q : Q v H) : DG1 (.ref a) (.str n) H Q :=
  ⟨a, v, rfl, by rw [← g]; exact .inl ⟨kvs, Sum.inr n, .inr ⟨o, e⟩, rfl, rfl⟩, q⟩
theorem for_ek {D : Ends} {σ : L2.St} {H : Hp} {b : TS} {d : Addr} {o : Obj} {j k : Nat} {kvs : List (Key × V)} (Pv : Nat → L2.St → Hp → Prop) (h0 : Pv 0 σ H) (hl : ∀ n σ H, n ≤ kvs.length → Pv n σ H → H d = some (.frz o (.dK kvs)))
    (hs : ∀ (n : Nat) ky x σ' H' H'', kvs[n]? = some (ky, x) → Pv n σ' H' → Same H' H'' → b { D with nx := Pv (n + 1), ct := Pv (n + 1), bk := D.nx } ((σ'.set j (some (.int (n : Int)))).set k (some (kV ky))) H'') (hd : ∀ σ' H', Pv kvs.length σ' H' → D.nx σ' H') :
    ForB (Ikp d o kvs) (gTup K 2 (gCons (gName j) (gCons (gName k) gNil))) b D σ H := by
  refine ⟨fun i m σ H => m = kvs.length - i ∧ i ≤ kvs.length ∧ Pv i σ H, ⟨kvs.length, by simp, Nat.zero_le _, h0⟩, ?_⟩
  rintro i m σ H ⟨rfl, hi, p⟩
  have q := hl i σ H hi p
  by_cases hlt : i < kvs.length
  · refine .inr ⟨⟨q, hlt⟩, Pv (i + 1), fun σ' H' p' => ⟨kvs.length - (i + 1), by omega, rfl, hlt, p'⟩, fun x H' y => ?_⟩
    obtain ⟨T, ky, y, rfl, hy, nT, rfl⟩ := y
    refine ⟨T, _, rfl, SqT.of upd_same, rfl, _, _, rfl, _, _, rfl, rfl, ?_⟩
    exact hs i ky y σ H _ hy p (same_upd nT)
  · have e : i = kvs.length := by omega
    subst e
    exact .inl ⟨⟨q, Nat.le_refl _⟩, hd σ H p⟩
theorem two_at {a b i lo hi : Int} (h : i = 0 ∨ i = 1) (ha : lo ≤ a ∧ a ≤ hi) (hb : lo ≤ b ∧ b ≤ hi) : ∃ u, atI [V.int a, V.int b] i = some (.int u) ∧ lo ≤ u ∧ u ≤ hi := by
  rcases h with rfl | rfl
  · exact ⟨a, rfl, ha⟩
  · exact ⟨b, rfl, hb⟩
theorem look_nd {n : Str} {w : Int} : ∀ {ws : List (Str × Int)}, (ws.map (·.1)).Nodup → (n, w) ∈ ws → lookW ws n = some w
  | [], _, h => by cases h
  | (m, u) :: r, nd, h => by
    rw [List.map_cons, List.nodup_cons] at nd
    rcases List.mem_cons.mp h with e | e
    · cases e; exact lookW_hit
    · have ne : m ≠ n := fun z => nd.1 (by rw [z]; exact List.mem_map.mpr ⟨(n, w), e, rfl⟩)
      rw [lookW_skip (decide_eq_false ne)]
      exact look_nd nd.2 e
theorem look_mem {n : Str} {w : Int} {ws : List (Str × Int)} (h : lookW ws n = some w) : (n, w) ∈ ws := by
  unfold lookW at h
  cases e : ws.find? (fun p => decide (p.1 = n)) with
  | none => rw [e] at h; cases h
  | some q =>
    rw [e] at h
    obtain ⟨m, u⟩ := q
    cases h
    have h1 := List.find?_some e
    have h2 := List.mem_of_find?_eq_some e
    have e2 : m = n := of_decide_eq_true h1
    rw [← e2]
    exact h2
theorem ws_put {ws : List (Str × Int)} (h : WsSmall ws) {n : Str} {v : Int} (hv : v.natAbs < 2 ^ 250) : WsSmall (putW ws n v) := by
  intro m u hu
  rw [look_put] at hu
  split at hu
  · cases hu; exact hv
  · exact h m u hu
def sp_law_words (K : PySem.W.Frag) : Sp := fun vs H Q _ => ∃ (d : Addr) (sd turn : Int) (wd : List (Str × Int)), vs = [.ref d, .int sd, .int turn] ∧ H d = some (.dK (wkv wd)) ∧ (wd.map (·.1)).Nodup ∧ WdOk wd ∧ wd.length ≤ 100 ∧ Builtin.Int.intBits (sd + turn) ≤ 1048600 ∧ 0 ≤ turn ∧ turn ≤ 1000 ∧
  ∀ p (ws : List (Str × Int)) H', H p = none → Same H H' → H' p = some (.dK (wkv ws)) → Within wd ws → WsSmall ws → Q (.ref p) H'
theorem ok_law_words (T : Top K mg) : FnOk P w K mg base CX0 2 T.a_law_words T.d_law_words ["_law_widths", "_law_seed", "_law_turn"] (sp_law_words K) := by
  refine T.f_law_words.ok sc_law_words (fun vs H Q E h => ?_) (fun cdv A outer s H vs Q E hr h => ?_)
  · obtain ⟨d, sd, turn, wd, rfl, _⟩ := h
    rfl
  obtain ⟨d, sd, turn, wd, rfl, h⟩ := h
  refine ⟨_, (pss_cons (ps_set (i := 3) sc_law_words.nd rfl (.inl rfl) pe_dnewK)
      (pss_cons (ps_lock (ps_for PassesOwn.never rfl (pi_enumK (by rfl) T.z_enumerate (pa_cons (pv 0) pa_nil)) (pg_tup (by rfl) (pgs_cons (pg_name (i := 4) sc_law_words.nd rfl (.inl rfl)) (pgs_cons (pg_name (i := 5) sc_law_words.nd rfl (.inl rfl)) pgs_nil)))
      (pss_cons (ps_asg (pe_call (ok_law_ends T) (hr.mono (by decide)) (by rfl) T.g_law_ends T.f_law_ends.kp T.b_law_ends .nil pass0 (pa_cons (pe_dget (hu_of hr) (pv 0) (pv 5) (fun _ _ => rfl)) pa_nil)) (pg_tup (by rfl) (pgs_cons (pg_name (i := 6) sc_law_words.nd rfl (.inl rfl)) (pgs_cons (pg_name (i := 7) sc_law_words.nd rfl (.inl rfl)) pgs_nil))))
      (pss_cons (ps_set (i := 8) sc_law_words.nd rfl (.inl rfl) (pe_op op_add (pv 6) (pe_op op_mod (pe_call (ok_law_mixed T) (hr.mono (by decide)) (by rfl) T.g_law_mixed T.f_law_mixed.kp T.b_law_mixed .nil pass0 (pa_cons (pe_op op_add (pv 1) (pv 2)) (pa_cons (pe_op op_add pe_int (pv 4)) pa_nil))) (pe_op op_add (pe_op op_sub (pv 7) (pv 6)) pe_int))))
      (pss_one (ps_dput (hu_of hr) (pv 3) (pv 5) (pe_ix (ix_listK K) (pe_lst (pa_cons (pe_ix (ix_listK K) (pe_lst (pa_cons (pv 6) (pa_cons (pv 7) pa_nil))) (pe_op op_mod (pe_op op_add (pv 2) (pv 4)) pe_int) (fun _ _ => rfl)) (pa_cons (pv 8) pa_nil))) (pe_callTy c_intB (by rfl) T.z_int (by decide +kernel) (pa_cons (pe_cmpR op_gt (pv 2) pe_int (nomark _)) pa_nil)) (fun _ _ => rfl)) rfl))))))
      (pss_one (ps_ret (pv 3))))), ?_⟩
  try dsimp only [cxOf, Cx.nox, Cx.wish]
  simp only [L2.start, List.map_cons, List.map_nil, List.length_cons, List.length_nil, Nat.reduceAdd, Nat.reduceSub, List.replicate_succ, List.replicate_zero, List.cons_append, List.nil_append]
  obtain ⟨hd, nd, wok, hwl, hsb, ht0, ht1, h⟩ := h
  walk_at "ws"
  rename_i p H1 n1 s1 e1
  have hd1 := s1 _ _ hd
  refine w_lockK hd1 fun od => ?_
  have hkl : (wkv wd).length = wd.length := List.length_map ..
  refine w_enumK ?_
  walk_at "ws"
  refine ⟨d, od, wkv wd, rfl, upd_same, ?_⟩
  have pd : p ≠ d := fun z => by rw [z, hd] at n1; cases n1
  refine for_ek (fun i σ' G => ∃ (ws : List (Str × Int)) (y4 y5 y6 y7 y8 : Option V), σ' = [some (.ref d), some (.int sd), some (.int turn), some (.ref p), y4, y5, y6, y7, y8] ∧ (∀ b o, H b = some o → b ≠ d → G b = some o) ∧ G d = some (.frz od (.dK (wkv wd))) ∧ G p = some (.dK (wkv ws)) ∧ ws.length ≤ i ∧ WsSmall ws ∧
      ∀ j n w, j < i → wd[j]? = some (n, w) → ∃ v, lookW ws n = some v ∧ (spanW w).1 ≤ v ∧ v ≤ (spanW w).2)
    ⟨[], _, _, _, _, _, rfl, fun b o e ne => (by rw [upd_ne ne]; exact s1 _ _ e), upd_same, (by rw [upd_ne pd]; exact e1), Nat.le_refl _, fun n v z => (by cases z), fun j n w z => absurd z (Nat.not_lt_zero _)⟩ (fun i σ' G _ q => ?_) (fun i ky x σ' G0 G hx q sG => ?_) (fun σ' G q => ?_)
  · obtain ⟨ws, y4, y5, y6, y7, y8, rfl, fr, ed, _⟩ := q
    exact ed
  · obtain ⟨ws, y4, y5, y6, y7, y8, rfl, fr0, ed0, ep0, hl, small, hin⟩ := q
    have fr : ∀ b o, H b = some o → b ≠ d → G b = some o := fun b o e ne => sG _ _ (fr0 b o e ne)
    have ed := sG _ _ ed0
    have ep := sG _ _ ep0
    obtain ⟨⟨n, w⟩, hw, e⟩ : ∃ q, wd[i]? = some q ∧ (Sum.inr q.1, V.int q.2) = (ky, x) := by
      unfold wkv at hx
      rw [List.getElem?_map] at hx
      cases hq : wd[i]? with
      | none => rw [hq] at hx; cases hx
      | some q => rw [hq] at hx; exact ⟨q, rfl, Option.some.inj hx⟩
    cases e
    have hi := (List.getElem?_eq_some_iff.mp hw).1
    have hlw : lookW wd n = some w := look_nd nd (List.mem_of_getElem? hw)
    have hwb := wok n w hlw
    have hspan := spanW_bd hwb
    have hv2 : valV (wkv wd) (Sum.inr n) = some (.int w) := by rw [valV_wkv, hlw]; rfl
    walk_at "ws"
    refine w_DG1F ed hv2 ?_
    walk_at "ws"
    refine ⟨w, rfl, ⟨hwb.1, by omega, by omega⟩, fun q1 G1 nq1 sq1 eq1 => ?_⟩
    have ed1 := sq1 _ _ ed
    have ep1 := sq1 _ _ ep
    have fr1 : ∀ b o, H b = some o → b ≠ d → G1 b = some o := fun b o e ne => sq1 _ _ (fr b o e ne)
    walk_at "ws"
    rename_i v _ v0 v1 q2 G2 nq2 sq2 eq2
    have hm0 : 0 ≤ v % ((spanW w).2 - (spanW w).1 + 1) := Int.emod_nonneg _ (by omega)
    have hm1 : v % ((spanW w).2 - (spanW w).1 + 1) < (spanW w).2 - (spanW w).1 + 1 := Int.emod_lt_of_pos _ (by omega)
    generalize v % ((spanW w).2 - (spanW w).1 + 1) = r at *
    have ed2 := sq2 _ _ ed1
    have ep2 := sq2 _ _ ep1
    have fr2 : ∀ b o, H b = some o → b ≠ d → G2 b = some o := fun b o e ne => sq2 _ _ (fr1 b o e ne)
    obtain ⟨u1, hu1, hu1b⟩ := two_at (a := (spanW w).1) (b := (spanW w).2) (i := (turn + (i : Int)) % 2) (lo := (spanW w).1) (hi := (spanW w).2) (by omega) ⟨by omega, by omega⟩ ⟨by omega, by omega⟩
    refine w_ixL (SqL.of eq2) hu1 ?_
    walk_at "ws"
    rename_i q3 G3 nq3 sq3 eq3
    have ep3 := sq3 _ _ ep2
    have ed3 := sq3 _ _ ed2
    have fr3 : ∀ b o, H b = some o → b ≠ d → G3 b = some o := fun b o e ne => sq3 _ _ (fr2 b o e ne)
    obtain ⟨u2, hu2, hu2b⟩ := two_at (a := u1) (b := (spanW w).1 + r) (i := (if decide (1 < turn) = true then 1 else 0)) (lo := (spanW w).1) (hi := (spanW w).2) (by split; exact .inr rfl; exact .inl rfl) hu1b ⟨by omega, by omega⟩
    refine w_ixL (SqL.of eq3) hu2 ?_
    walk_at "ws"
    refine w_DPutB (n := n) ep3 (by omega) ?_
    refine ⟨putW ws n u2, _, _, _, _, _, rfl, fun b o e ne => ?_, ?_, upd_same, by have := putW_len ws n u2; omega, ws_put small (Nat.lt_of_lt_of_le (show u2.natAbs < 33554432 by omega) (by decide)), fun j m x hj hx2 => ?_⟩
    · rw [upd_ne (fun z => by rw [z, n1] at e; cases e)]
      exact fr3 b o e ne
    · rw [upd_ne pd.symm]
      exact ed3
    · rw [look_put]
      by_cases c : j = i
      · subst c
        rw [hw] at hx2
        cases hx2
        rw [if_pos rfl]
        exact ⟨u2, rfl, hu2b⟩
      · have ne : m ≠ n := fun z => by
          have h1 := look_nd nd (List.mem_of_getElem? hx2)
          have a1 : (wd.map (·.1))[j]? = some n := by rw [List.getElem?_map, hx2, z]; rfl
          have a2 : (wd.map (·.1))[i]? = some n := by rw [List.getElem?_map, hw]; rfl
          have l1 := (List.getElem?_eq_some_iff.mp a1).1
          exact c ((List.getElem?_inj l1 nd).mp (a1.trans a2.symm))
        rw [if_neg ne]
        exact hin j m x (by omega) hx2
  · obtain ⟨ws, y4, y5, y6, y7, y8, rfl, fr, ed, ep, hl, small, hin⟩ := q
    refine ⟨ed, ?_⟩
    have sm : Same H (upd G d (.dK (wkv wd))) := fun b o e => by
      by_cases c : b = d
      · rw [c] at e ⊢
        rw [hd] at e
        rw [upd_same, e]
      · rw [upd_ne c]; exact fr b o e c
    have ep2 : (upd G d (.dK (wkv wd))) p = some (.dK (wkv ws)) := by rw [upd_ne pd]; exact ep
    generalize upd G d (.dK (wkv wd)) = G2 at *
    walk_at "ws"
    refine h p ws G2 n1 sm ep2 (fun n w hw => ?_) small
    have hm := look_mem hw
    obtain ⟨j, hj⟩ := List.mem_iff_getElem?.mp hm
    exact hin j n w (by have := (List.getElem?_eq_some_iff.mp hj).1; omega) hj

/-! the names of a formula -/
def sp_law_names_of (K : PySem.W.Frag) (n : Nat) : Sp := fun vs H Q _ => ∃ (p : Addr) (f : Fm), vs = [.ref p] ∧ FmAt H p f ∧ f.size ≤ n ∧ f.size ≤ 1000 ∧ ∀ q H', H q = none → Same H H' → H' q = some (.lst ((namesF f).map V.str)) → Q (.ref q) H'
theorem no_law_names_of {vs : List V} {H : Hp} {Q : VK} {E : XK} (h : sp_law_names_of K 0 vs H Q E) : False := by
  obtain ⟨p, f, _, _, h0, _⟩ := h
  have := f.size_pos
  omega
theorem names_le : ∀ f : Fm, (namesF f).length ≤ f.size
  | .name n => Nat.le_refl _
  | .num n => Nat.zero_le _
  | .turned f => Nat.le_succ_of_le (names_le f)
  | .plus f g => by
    have := names_le f
    have := names_le g
    show (namesF f ++ namesF g).length ≤ f.size + g.size + 1
    rw [List.length_append]; omega
  | .less f g => by
    have := names_le f
    have := names_le g
    show (namesF f ++ namesF g).length ≤ f.size + g.size + 1
    rw [List.length_append]; omega
  | .times f g => by
    have := names_le f
    have := names_le g
    show (namesF f ++ namesF g).length ≤ f.size + g.size + 1
    rw [List.length_append]; omega
theorem flatS_take {fs : List (List Str)} {i : Nat} {x : List Str} (h : fs[i]? = some x) : (fs.take (i + 1)).flatten = (fs.take i).flatten ++ x := by
  rw [take_snoc h, List.flatten_append]
  simp
theorem flatS_le {fs : List (List Str)} (i : Nat) : (fs.take i).flatten.length ≤ fs.flatten.length := by
  have e := List.take_append_drop i fs
  have : fs.flatten.length = (fs.take i).flatten.length + (fs.drop i).flatten.length := by rw [← List.length_append, ← List.flatten_append, e]
  omega
theorem rec_law_names_of (T : Top K mg) (n : Nat) (ih : FnOk P w K mg base CX0 (1 + n) T.a_law_names_of T.d_law_names_of ["_law_formula"] (sp_law_names_of K n)) : FnOk P w K mg base CX0 (1 + n + 1) T.a_law_names_of T.d_law_names_of ["_law_formula"] (sp_law_names_of K (n + 1)) := by
  refine T.f_law_names_of.ok sc_law_names_of (fun vs H Q E h => ?_) (fun cdv A outer s H vs Q E hr h => ?_)
  · obtain ⟨p, f, rfl, _⟩ := h
    rfl
  obtain ⟨p, f, rfl, h⟩ := h
  refine ⟨_, (pss_cons (ps_if (pt_cmpR op_eq (pe_ix (ix_tupK K) (pv 0) pe_int (fun _ _ => rfl)) pe_str (nomark _)) (pss_one (ps_ret (pe_lst (pa_cons (pe_ix (ix_tupK K) (pv 0) pe_int (fun _ _ => rfl)) pa_nil)))) pss_nil)
      (pss_cons (ps_if (pt_cmpR op_eq (pe_ix (ix_tupK K) (pv 0) pe_int (fun _ _ => rfl)) pe_str (nomark _)) (pss_one (ps_ret (pe_lst pa_nil))) pss_nil)
      (pss_cons (ps_set (i := 1) sc_law_names_of.nd rfl (.inl rfl) (pe_lst pa_nil))
      (pss_cons (ps_for PassesOwn.never rfl (pi_tup (pe_slice sl_tup (pv 0) (po_some pe_int) po_none)) (pg_name (i := 2) sc_law_names_of.nd rfl (.inl rfl))
      (pss_one (ps_set (i := 1) sc_law_names_of.nd rfl (.inl rfl) (pe_op op_cat (pv 1) (pe_call ih hr (by rfl) T.g_law_names_of T.f_law_names_of.kp T.b_law_names_of .nil pass0 (pa_cons (pv 2) pa_nil))))))
      (pss_one (ps_ret (pv 1))))))), ?_⟩
  try dsimp only [cxOf, Cx.nox, Cx.wish]
  simp only [L2.start, List.map_cons, List.map_nil, List.length_cons, List.length_nil, Nat.reduceAdd, Nat.reduceSub, List.replicate_succ, List.replicate_zero, List.cons_append, List.nil_append]
  obtain ⟨hp, hn, hk, h⟩ := h
  have hnl := names_le f
  have inner : ∀ (hlf : leafB f = false), True := fun _ => trivial
  cases hlf : leafB f with
  | true =>
    cases f with
    | name m =>
      have hp : H p = some (.tup [.str "name", .str m]) := hp
      walk_at "ws"
      exact h _ _ (by assumption) (by assumption) (by assumption)
    | num m =>
      have hp : H p = some (.tup [.str "number", .int m]) := hp
      walk_at "ws"
      exact h _ _ (by assumption) (by assumption) (by assumption)
    | _ => cases hlf
  | false =>
    obtain ⟨ks, ek, hA⟩ := hp.kids hlf
    have hh1 : ¬ headF f = "name" := fun z => by
      obtain ⟨n, rfl⟩ := headF_name z
      cases hlf
    have hh2 : ¬ headF f = "number" := fun z => by
      obtain ⟨n, rfl⟩ := headF_num z
      cases hlf
    have hkl := kids_len f
    have lks : (ks.map V.ref).length = (kids f).length := by rw [List.length_map, hA.1]
    have lfl : ((kids f).map namesF).flatten.length ≤ f.size := by rw [← names_kids f hlf]; exact hnl
    rw [names_kids f hlf] at h
    walk_at "ws"
    refine w_ixT (SqT.of ek) at_0 ?_
    walk_at "ws"
    · rename_i z
      exact absurd z hh1
    · refine w_ixT (SqT.of ek) at_0 ?_
      walk_at "ws"
      · exact absurd (by assumption) hh2
      · rename_i q1 H1 n1 s1 e1 l H3 n3 s3 e3
        refine for_t (ks.map V.ref) (fun i σ' G => ∃ (q : Addr) (y2 : Option V), σ' = [some (.ref p), some (.ref q), y2] ∧ H q = none ∧ Same H G ∧ SqT K G l (ks.map V.ref) ∧ G q = some (.lst ((((kids f).map namesF).take i).flatten.map V.str)))
          ⟨q1, _, rfl, n1, s1.trans s3, SqT.of e3, s3 _ _ e1⟩ (fun i σ' G _ q => ?_) (fun i x σ' G hx q => ?_) (fun σ' G q => ?_)
        · obtain ⟨q, y2, rfl, nq, sG, hT, _⟩ := q
          exact hT
        · obtain ⟨q, y2, rfl, nq, sG, hT, hq⟩ := q
          obtain ⟨pk, hpki, rfl⟩ := get_map hx
          obtain ⟨g, hgi, hg⟩ := hA.get hpki
          have hi := (List.getElem?_eq_some_iff.mp hgi).1
          have gsz := kid_size (List.mem_of_getElem? hgi)
          have hmi : ((kids f).map namesF)[i]? = some (namesF g) := by rw [List.getElem?_map, hgi]; rfl
          have ft := flatS_take hmi
          have fl := flatS_le (fs := (kids f).map namesF) (i + 1)
          rw [ft, List.length_append] at fl
          walk_at "ws"
          refine ⟨pk, g, rfl, hg.same sG, by omega, by omega, fun q2 G2 nq2 sG2 hq2 => ?_⟩
          have hq' := sG2 _ _ hq
          have lu : (((((kids f).map namesF).take i).flatten).map V.str).length = ((((kids f).map namesF).take i).flatten).length := List.length_map ..
          have lv : ((namesF g).map V.str).length = (namesF g).length := List.length_map ..
          walk_at "ws"
          intro q3 G3 n3 s3 e3
          refine ⟨q3, _, rfl, sG.free (sG2.free n3), (sG.trans sG2).trans s3, same_tup s3 (same_tup sG2 hT), ?_⟩
          rw [ft, List.map_append]
          exact e3
        · obtain ⟨q, y2, rfl, nq, sG, hT, hq⟩ := q
          rw [List.take_of_length_le (by rw [lks, List.length_map]; exact Nat.le_refl _)] at hq
          walk_at "ws"
          exact h q G nq sG hq
theorem all_law_names_of (T : Top K mg) : ∀ n : Nat, FnOk P w K mg base CX0 (1 + n) T.a_law_names_of T.d_law_names_of ["_law_formula"] (sp_law_names_of K n)
  | 0 => T.f_law_names_of.ok (k := 0) sc_law_names_of (fun _ _ _ _ h => (no_law_names_of h).elim) (fun _ _ _ _ _ _ _ _ _ h => (no_law_names_of h).elim)
  | n + 1 => rec_law_names_of T n (all_law_names_of T n)
theorem ok_law_names_of (T : Top K mg) : FnOk P w K mg base CX0 32 T.a_law_names_of T.d_law_names_of ["_law_formula"] (sp_law_names_of K 31) := all_law_names_of T 31

/-! a circuit is formed -/
theorem w_isiC {K : PySem.W.Frag} {mg : Str → Option Value} {H : Hp} {Q : VK} {a C dx : Addr} {fs : List (Str × V)} (e : H a = some (.ins C dx fs)) (cl : Cls K C) (h1 : PySem.W.findIn K (.ref C) "__class__" = some (some (.builtin "object.__class__"))) (h2 : PySem.W.specialIn K (.builtin "object.__class__") "__get__" = some (some (.builtin "getset_descriptor.__get__"))) (h3 : PySem.W.takesIn K (.builtin "object.__class__") = some true) (h4 : PySem.W.mroIn K C (.type "object") = some true) (q : Q (.bl true) H) : rIsi K [.ref a, .ref C] H Q :=
  ⟨_, _, .ref C, .ref C, true, rfl, .own C, TyX.base (TyOf.ins e cl h1 h2 h3 h4), by unfold PySem.W.kitOne; rw [if_pos (by exact beq_self_eq_true _)], q⟩
def sp_law_formed (K : PySem.W.Frag) : Sp := fun vs H Q _ => ∃ (cp p d C dx ra oa : Addr) (f : Fm) (wd : List (Str × Int)) (N : Str → Prop) (R : List Row) (outs : List Nat) (m : Nat) (b : Bool), vs = [.ref cp, .ref p, .ref d] ∧
  H cp = some (.ins C dx [("rows", .ref ra), ("outs", .ref oa), ("below", .bl b)]) ∧ IsC K "Circuit" C ∧ RowsM H ra R ∧ NatsAt H oa outs ∧ FmAt H p f ∧ H d = some (.dK (wkv wd)) ∧ FmOk N f ∧ WdOk wd ∧ f.size ≤ 31 ∧ HasF wd f ∧ RowsW (· ∈ namesF f) wd R ∧ R.length ≤ 900000 ∧
  RoomOk (spanF wd f).1 (spanF wd f).2 m b ∧ m ≤ 5000 ∧ outs.length = m ∧ (∀ u ∈ outs, u < R.length) ∧ ∀ H', Same H H' → Q (.bl true) H'
theorem ok_law_formed (T : Top K mg) : FnOk P w K mg base CX0 63 T.a_law_formed T.d_law_formed ["_law_found", "_law_formula", "_law_widths"] (sp_law_formed K) := by
  refine T.f_law_formed.ok sc_law_formed (fun vs H Q E h => ?_) (fun cdv A outer s H vs Q E hr h => ?_)
  · obtain ⟨cp, p, d, C, dx, ra, oa, f, wd, N, R, outs, m, b, rfl, _⟩ := h
    rfl
  obtain ⟨cp, p, d, C, dx, ra, oa, f, wd, N, R, outs, m, b, rfl, h⟩ := h
  refine ⟨_, (pss_cons (ps_if (PW.pt (pw_or (pt_not (pt_val (pe_callB (c_isiK K) (by rfl) T.z_isinstance (by decide +kernel) (pa_cons (pv 0) (pa_cons (pe_glob (v := .ref T.c_Circuit) (by rfl) T.gc_Circuit rfl) pa_nil))))) (pw_or1 (pt_not (pt_val (pe_call (ok_law_good T) (hr.mono (by decide)) (by rfl) T.g_law_good T.f_law_good.kp T.b_law_good .nil pass0 (pa_cons (pe_fld (pv 0) rfl) (pa_cons (pe_call (ok_law_names_of T) (hr.mono (by decide)) (by rfl) T.g_law_names_of T.f_law_names_of.kp T.b_law_names_of .nil pass0 (pa_cons (pv 1) pa_nil)) pa_nil)))))))) (pss_one (ps_ret pe_bl)) pss_nil)
      (pss_cons (ps_for PassesOwn.never rfl (pi_list (pe_fld (pv 0) rfl)) (pg_name (i := 3) sc_law_formed.nd rfl (.inl rfl))
      (pss_one (ps_if (PW.pt (pw_and (pt_cmpR op_eq (pe_ix (ix_tupK K) (pv 3) pe_int (fun _ _ => rfl)) pe_str (nomark _)) (pw_and1 (pt_cmpR op_ge (pe_ix (ix_tupK K) (pv 3) pe_int (fun _ _ => rfl)) (pe_callB c_abs (by rfl) T.z_abs (by decide +kernel) (pa_cons (pe_dget (hu_of hr) (pv 2) (pe_ix (ix_tupK K) (pv 3) pe_int (fun _ _ => rfl)) (fun _ _ => rfl)) pa_nil)) (nomark _))))) (pss_one (ps_ret pe_bl)) pss_nil)))
      (pss_cons (ps_asg (pe_call (ok_law_room T) (hr.mono (by decide)) (by rfl) T.g_law_room T.f_law_room.kp T.b_law_room .nil pass0 (pa_cons (pe_call (ok_law_span T) (hr.mono (by decide)) (by rfl) T.g_law_span T.f_law_span.kp T.b_law_span .nil pass0 (pa_cons (pv 1) (pa_cons (pv 2) pa_nil))) pa_nil)) (pg_tup (by rfl) (pgs_cons (pg_name (i := 4) sc_law_formed.nd rfl (.inl rfl)) (pgs_cons (pg_name (i := 5) sc_law_formed.nd rfl (.inl rfl)) pgs_nil))))
      (pss_cons (ps_if (PW.pt (pw_or (pt_not (pt_val (pe_callB (c_isiK K) (by rfl) T.z_isinstance (by decide +kernel) (pa_cons (pe_fld (pv 0) rfl) (pa_cons (pe_bltn (v := .ty "bool") (by rfl) T.z_bool (by decide +kernel) rfl) pa_nil))))) (pw_or1 (pt_cmpR op_ne (pe_fld (pv 0) rfl) (pv 5) (nomark _))))) (pss_one (ps_ret pe_bl)) pss_nil)
      (pss_cons (ps_if (PW.pt (pw_or (pt_not (pt_val (pe_callB (c_isiK K) (by rfl) T.z_isinstance (by decide +kernel) (pa_cons (pe_fld (pv 0) rfl) (pa_cons (pe_bltn (v := .ty "list") (by rfl) T.z_list (by decide +kernel) rfl) pa_nil))))) (pw_or1 (pt_cmpR op_ne (pe_callB (c_lenK K) (by rfl) T.z_len PySem.boot_len (pa_cons (pe_fld (pv 0) rfl) pa_nil)) (pv 4) (nomark _))))) (pss_one (ps_ret pe_bl)) pss_nil)
      (pss_cons (ps_for PassesOwn.never rfl (pi_list (pe_fld (pv 0) rfl)) (pg_name (i := 6) sc_law_formed.nd rfl (.inl rfl))
      (pss_one (ps_if (PW.pt (pw_or (pt_not (pt_val (pe_call (ok_law_whole T) (hr.mono (by decide)) (by rfl) T.g_law_whole T.f_law_whole.kp T.b_law_whole .nil pass0 (pa_cons (pv 6) pa_nil)))) (pw_or (pt_cmpR op_lt (pv 6) pe_int (nomark _)) (pw_or1 (pt_cmpR op_ge (pv 6) (pe_callB (c_lenK K) (by rfl) T.z_len PySem.boot_len (pa_cons (pe_fld (pv 0) rfl) pa_nil)) (nomark _)))))) (pss_one (ps_ret pe_bl)) pss_nil)))
      (pss_one (ps_ret pe_bl)))))))), ?_⟩
  try dsimp only [cxOf, Cx.nox, Cx.wish]
  simp only [L2.start, List.map_cons, List.map_nil, List.length_cons, List.length_nil, Nat.reduceAdd, Nat.reduceSub, List.replicate_succ, List.replicate_zero, List.cons_append, List.nil_append]
  obtain ⟨ec, hC, hM, ho, hf, hd, ok, wok, hsz, has, rw_, hRl, rok, hm, hol, hlt, h⟩ := h
  obtain rfl := hC.one T.nc_Circuit
  have k1 := T.cl_Circuit
  have k2 := T.n_Circuit_rows
  have k3 := T.n_Circuit_outs
  have k4 := T.n_Circuit_below
  have hok : FmOk (· ∈ namesF f) f := ok_names ok
  have hfs := f.size_pos
  walk_at "ws"
  refine w_isiC (mg := mg) ec k1 T.icl_Circuit T.isp_Circuit T.itk_Circuit T.imr_Circuit ?_
  walk_at "ws"
  refine ⟨p, f, rfl, hf, by omega, by omega, fun q1 H1 n1 s1 e1 => ?_⟩
  have ec1 := s1 _ _ ec
  walk_at "ws"
  refine ⟨ra, q1, R, namesF f, rfl, hM.same s1, SqL.of e1, rw_.ok, rw_.nl, hRl, fun H2 s2 => ?_⟩
  have s12 := s1.trans s2
  have ec2 := s12 _ _ ec
  obtain ⟨ps, hps, hA⟩ := hM
  have hpl := hA.1
  have hps2 := s12 _ _ hps
  walk_at "ws"
  refine for_l (ps.map V.ref) (fun i σ' G => ∃ y3, σ' = [some (.ref cp), some (.ref p), some (.ref d), y3, none, none, none] ∧ Same H G) ⟨_, rfl, s12⟩ (fun i σ' G _ q => ?_) (fun i x σ' G hx q => ?_) (fun σ' G q => ?_)
  · obtain ⟨y3, rfl, sm⟩ := q
    exact SqL.of (sm _ _ hps)
  · obtain ⟨y3, rfl, sm⟩ := q
    obtain ⟨pr, hpr, rfl⟩ := get_map hx
    obtain ⟨r, hr, hrow⟩ := hA.get hpr
    have okr := rw_.ok i r hr
    have hrG0 : G pr = some (.tup (rowV r)) := sm _ _ hrow
    have hdG := sm _ _ hd
    cases r with
    | inn n k =>
      have hrG : G pr = some (.tup [.str "in", .str n, .int (k : Int)]) := hrG0
      obtain ⟨w, hw⟩ := has n okr.1
      have hw2 : valV (wkv wd) (Sum.inr n) = some (.int w) := by rw [valV_wkv, hw]; rfl
      have hk := rw_.ins n k (List.mem_of_getElem? hr)
      rw [hw] at hk
      have hk : k < w.natAbs := hk
      walk_at "ws"
      exact ⟨_, rfl, sm⟩
    | fix c =>
      have hrG : G pr = some (.tup [.str "fix", .int c]) := hrG0
      walk_at "ws"
      exact ⟨_, rfl, sm⟩
    | inv u =>
      have hrG : G pr = some (.tup [.str "not", .int (u : Int)]) := hrG0
      walk_at "ws"
      exact ⟨_, rfl, sm⟩
    | lat u =>
      exact (rw_.nl _ (List.mem_of_getElem? hr)).elim
    | bin o u v =>
      have hrG : G pr = some (.tup [.str (bopS o), .int (u : Int), .int (v : Int)]) := hrG0
      cases o <;>
      · walk_at "ws"
        exact ⟨_, rfl, sm⟩
  · obtain ⟨y3, rfl, sm⟩ := q
    walk_at "ws"
    refine ⟨p, d, f, wd, (· ∈ namesF f), rfl, hf.same sm, sm _ _ hd, hok, has, wok, by omega, by omega, fun q3 H3 n3 s3 e3 => ?_⟩
    walk_at "ws"
    refine ⟨q3, _, _, m, b, rfl, SqT.of e3, rok, hm, fun q4 H4 n4 s4 e4 => ?_⟩
    have s04 := (sm.trans s3).trans s4
    have ec4 := s04 _ _ ec
    have ho4 : NatsAt H4 oa outs := s04 _ _ ho
    unfold NatsAt at ho4
    have hps4 := s04 _ _ hps
    have hml : ((natI outs).map V.int).length = outs.length := by rw [List.length_map]; exact List.length_map ..
    walk_at "ws"
    refine for_l ((natI outs).map V.int) (fun i σ' G' => ∃ y6, σ' = [some (.ref cp), some (.ref p), some (.ref d), y3, some (.int (m : Int)), some (.bl b), y6] ∧ G' = H4) ⟨_, rfl, rfl⟩ (fun i σ' G' _ q => ?_) (fun i x σ' G' hx q => ?_) (fun σ' G' q => ?_)
    · obtain ⟨y6, rfl, rfl⟩ := q
      exact SqL.of ho4
    · obtain ⟨y6, rfl, rfl⟩ := q
      rw [natI_map] at hx
      obtain ⟨u, hu, rfl⟩ := get_map hx
      have hul := hlt u (List.mem_of_getElem? hu)
      have hpl2 : (ps.map V.ref).length = R.length := by rw [List.length_map, hpl]
      walk_at "ws"
      exact ⟨_, rfl, rfl⟩
    · obtain ⟨y6, rfl, rfl⟩ := q
      walk_at "ws"
      exact h _ s04

/-! made, order and splits left out or not -/
/-- what a made circuit is -/
structure MadeAt (K : PySem.W.Frag) (H H' : Hp) (wd : List (Str × Int)) (f : Fm) (cp : Addr) (R : List Row) (outs : List Nat) (m : Nat) (b : Bool) : Prop where
  room : RoomOk (spanF wd f).1 (spanF wd f).2 m b
  made : MadeOk (· ∈ namesF f) wd [] R f outs m
  len : R.length ≤ 290000
  at_ : ∃ (C dx ra oa : Addr), H' cp = some (.ins C dx [("rows", .ref ra), ("outs", .ref oa), ("below", .bl b)]) ∧ IsC K "Circuit" C ∧ RowsM H' ra R ∧ NatsAt H' oa outs
  fresh : H cp = none
  same : Same H H'

/-! leaves: how many there are, what they bound -/
def lvF : Fm → Nat
  | .name _ => 1
  | .num _ => 1
  | .turned f => lvF f
  | .plus f g => lvF f + lvF g
  | .less f g => lvF f + lvF g
  | .times f g => lvF f + lvF g
theorem lv_size : ∀ f : Fm, 1 ≤ lvF f ∧ 2 * lvF f ≤ f.size + 1
  | .name _ => ⟨Nat.le_refl _, Nat.le_refl _⟩
  | .num _ => ⟨Nat.le_refl _, Nat.le_refl _⟩
  | .turned f => by
    have h := lv_size f
    have e1 : lvF (.turned f) = lvF f := rfl
    have e2 : (Fm.turned f).size = f.size + 1 := rfl
    omega
  | .plus f g => by
    have h1 := lv_size f
    have h2 := lv_size g
    have e1 : lvF (.plus f g) = lvF f + lvF g := rfl
    have e2 : (Fm.plus f g).size = f.size + g.size + 1 := rfl
    omega
  | .less f g => by
    have h1 := lv_size f
    have h2 := lv_size g
    have e1 : lvF (.less f g) = lvF f + lvF g := rfl
    have e2 : (Fm.less f g).size = f.size + g.size + 1 := rfl
    omega
  | .times f g => by
    have h1 := lv_size f
    have h2 := lv_size g
    have e1 : lvF (.times f g) = lvF f + lvF g := rfl
    have e2 : (Fm.times f g).size = f.size + g.size + 1 := rfl
    omega
theorem cost_lv (D S : Nat) : ∀ f : Fm, costF D S f + (2 * S + 7 * D) ≤ (168 + (2 * S + 7 * D)) * lvF f
  | .name _ => by show 168 + (2 * S + 7 * D) ≤ (168 + (2 * S + 7 * D)) * 1; omega
  | .num _ => by show 0 + (2 * S + 7 * D) ≤ (168 + (2 * S + 7 * D)) * 1; omega
  | .turned f => cost_lv D S f
  | .plus f g => by
    have h1 := cost_lv D S f
    have h2 := cost_lv D S g
    show costF D S f + costF D S g + (2 * S + 7 * D) ≤ (168 + (2 * S + 7 * D)) * (lvF f + lvF g)
    rw [Nat.mul_add]; omega
  | .less f g => by
    have h1 := cost_lv D S f
    have h2 := cost_lv D S g
    show costF D S f + costF D S g + (2 * S + 7 * D) ≤ (168 + (2 * S + 7 * D)) * (lvF f + lvF g)
    rw [Nat.mul_add]; omega
  | .times f g => by
    have h1 := cost_lv D S f
    have h2 := cost_lv D S g
    show costF D S f + costF D S g + 2 * S + 7 * D + (2 * S + 7 * D) ≤ (168 + (2 * S + 7 * D)) * (lvF f + lvF g)
    rw [Nat.mul_add]; omega
def SpB (s : Int × Int) (X : Nat) : Prop := s.1.natAbs ≤ X ∧ s.2.natAbs ≤ X
theorem two_pow {M a : Nat} (hM : 2 ≤ M) (ha : 1 ≤ a) : 2 ≤ M ^ a := by
  obtain ⟨k, rfl⟩ : ∃ k, a = k + 1 := ⟨a - 1, by omega⟩
  rw [Nat.pow_succ]
  have : 0 < M ^ k := Nat.pow_pos (by omega)
  have := Nat.mul_le_mul (show 1 ≤ M ^ k by omega) hM
  omega
theorem add_le_mul2 {x y : Nat} (hx : 2 ≤ x) (hy : 2 ≤ y) : x + y ≤ x * y := by
  obtain ⟨a, rfl⟩ : ∃ a, x = a + 2 := ⟨x - 2, by omega⟩
  obtain ⟨b, rfl⟩ : ∃ b, y = b + 2 := ⟨y - 2, by omega⟩
  have : (a + 2) * (b + 2) = a * b + 2 * a + 2 * b + 4 := by grind
  omega
theorem mulSpan_bd {s t : Int × Int} {X Y : Nat} (h1 : SpB s X) (h2 : SpB t Y) : SpB (mulSpan s t) (X * Y) := by
  have k : ∀ a b : Int, a.natAbs ≤ X → b.natAbs ≤ Y → (a * b).natAbs ≤ X * Y := fun a b ha hb => by
    rw [Int.natAbs_mul]
    exact Nat.mul_le_mul ha hb
  have a1 := k s.1 t.1 h1.1 h2.1
  have a2 := k s.1 t.2 h1.1 h2.2
  have a3 := k s.2 t.1 h1.2 h2.1
  have a4 := k s.2 t.2 h1.2 h2.2
  unfold SpB mulSpan min4 max4
  generalize s.1 * t.1 = p1 at *
  generalize s.1 * t.2 = p2 at *
  generalize s.2 * t.1 = p3 at *
  generalize s.2 * t.2 = p4 at *
  constructor
  · show (min (min p1 p2) (min p3 p4)).natAbs ≤ X * Y
    omega
  · show (max (max p1 p2) (max p3 p4)).natAbs ≤ X * Y
    omega
theorem span_lv {N : Str → Prop} {wd : List (Str × Int)} {M : Nat} (hM : 2 ≤ M) (hw : ∀ n v, lookW wd n = some v → SpB (spanW v) M) : ∀ {f : Fm}, FmOk N f → NumLe (M : Int) f → SpB (spanF wd f) (M ^ lvF f)
  | .name n, _, _ => by
    show SpB (spanW ((lookW wd n).getD 1)) (M ^ 1)
    rw [Nat.pow_one]
    cases e : lookW wd n with
    | none =>
      show SpB (spanW 1) M
      have e1 : spanW 1 = (0, 1) := by decide
      rw [e1]
      exact ⟨Nat.zero_le _, show (1 : Int).natAbs ≤ M by omega⟩
    | some v => exact hw n v e
  | .num n, ok, hn => by
    have ok : 0 ≤ n ∧ n ≤ 1000000000000 := ok
    have hn : n ≤ (M : Int) := hn
    show SpB (n, n) (M ^ 1)
    rw [Nat.pow_one]
    exact ⟨show n.natAbs ≤ M by omega, show n.natAbs ≤ M by omega⟩
  | .turned f, ok, hn => by
    have h := span_lv hM hw (f := f) ok hn
    show SpB (-(spanF wd f).2, -(spanF wd f).1) (M ^ lvF f)
    exact ⟨by rw [Int.natAbs_neg]; exact h.2, by rw [Int.natAbs_neg]; exact h.1⟩
  | .plus f g, ok, hn => by
    have h1 := span_lv hM hw ok.1 hn.1
    have h2 := span_lv hM hw ok.2 hn.2
    have q := add_le_mul2 (two_pow hM (lv_size f).1) (two_pow hM (lv_size g).1)
    show SpB ((spanF wd f).1 + (spanF wd g).1, (spanF wd f).2 + (spanF wd g).2) (M ^ (lvF f + lvF g))
    rw [Nat.pow_add]
    unfold SpB at *
    generalize M ^ lvF f * M ^ lvF g = Z at *
    exact ⟨show ((spanF wd f).1 + (spanF wd g).1).natAbs ≤ Z by omega, show ((spanF wd f).2 + (spanF wd g).2).natAbs ≤ Z by omega⟩
  | .less f g, ok, hn => by
    have h1 := span_lv hM hw ok.1 hn.1
    have h2 := span_lv hM hw ok.2 hn.2
    have q := add_le_mul2 (two_pow hM (lv_size f).1) (two_pow hM (lv_size g).1)
    show SpB ((spanF wd f).1 - (spanF wd g).2, (spanF wd f).2 - (spanF wd g).1) (M ^ (lvF f + lvF g))
    rw [Nat.pow_add]
    unfold SpB at *
    generalize M ^ lvF f * M ^ lvF g = Z at *
    exact ⟨show ((spanF wd f).1 - (spanF wd g).2).natAbs ≤ Z by omega, show ((spanF wd f).2 - (spanF wd g).1).natAbs ≤ Z by omega⟩
  | .times f g, ok, hn => by
    have h1 := span_lv hM hw ok.1 hn.1
    have h2 := span_lv hM hw ok.2 hn.2
    show SpB (mulSpan (spanF wd f) (spanF wd g)) (M ^ (lvF f + lvF g))
    rw [Nat.pow_add]
    exact mulSpan_bd h1 h2
theorem part_lv {M : Int} : ∀ {f k : Fm}, NumLe M f → k ∈ partsF f → NumLe M k ∧ lvF k ≤ lvF f
  | .name m, k, h, hk => by rw [List.mem_singleton.mp hk]; exact ⟨h, Nat.le_refl _⟩
  | .num m, k, h, hk => by rw [List.mem_singleton.mp hk]; exact ⟨h, Nat.le_refl _⟩
  | .turned f, k, h, hk => by
    rcases List.mem_cons.mp hk with z | z
    · rw [z]; exact ⟨h, Nat.le_refl _⟩
    · exact part_lv (f := f) h z
  | .plus f g, k, h, hk => by
    have e : lvF (.plus f g) = lvF f + lvF g := rfl
    rcases List.mem_cons.mp hk with z | z
    · rw [z]; exact ⟨h, Nat.le_refl _⟩
    · rcases List.mem_append.mp z with z | z
      · have := part_lv h.1 z; exact ⟨this.1, by omega⟩
      · have := part_lv h.2 z; exact ⟨this.1, by omega⟩
  | .less f g, k, h, hk => by
    have e : lvF (.less f g) = lvF f + lvF g := rfl
    rcases List.mem_cons.mp hk with z | z
    · rw [z]; exact ⟨h, Nat.le_refl _⟩
    · rcases List.mem_append.mp z with z | z
      · have := part_lv h.1 z; exact ⟨this.1, by omega⟩
      · have := part_lv h.2 z; exact ⟨this.1, by omega⟩
  | .times f g, k, h, hk => by
    have e : lvF (.times f g) = lvF f + lvF g := rfl
    rcases List.mem_cons.mp hk with z | z
    · rw [z]; exact ⟨h, Nat.le_refl _⟩
    · rcases List.mem_append.mp z with z | z
      · have := part_lv h.1 z; exact ⟨this.1, by omega⟩
      · have := part_lv h.2 z; exact ⟨this.1, by omega⟩
theorem room_le {lo hi : Int} {B : Nat} (h : lo ≤ hi) (hB : 1 ≤ B) (h1 : -(2 ^ (B - 1)) ≤ lo) (h2 : hi < 2 ^ (B - 1)) : (roomI lo hi).1 ≤ (B : Int) := by
  obtain ⟨m, b, ok⟩ := room_ok h
  rw [ok.eq]
  have : m ≤ B := ok.least B hB (by
    unfold FitsB
    cases b with
    | true => rw [if_pos rfl]; exact ⟨h1, h2⟩
    | false =>
      rw [if_neg (by decide)]
      exact Int.lt_of_lt_of_le h2 (p2mono (by omega)))
  show (m : Int) ≤ B
  omega
theorem fit_lv {N : Str → Prop} {wd : List (Str × Int)} {M B : Nat} {f : Fm} (wok : WdOk wd) (hM : 2 ≤ M) (hw : ∀ n v, lookW wd n = some v → SpB (spanW v) M) (ok : FmOk N f) (hn : NumLe (M : Int) f) (hB : 1 ≤ B) (h : M ^ lvF f < 2 ^ (B - 1)) : FitB (B : Int) wd f := fun k hk => by
  have h1 := part_lv hn hk
  have h2 := span_lv hM hw (part_ok ok hk).1 h1.1
  have h3 := Nat.pow_le_pow_right (show 0 < M by omega) h1.2
  have h4 := span_le wok k
  have e : ((2 ^ (B - 1) : Nat) : Int) = (2 : Int) ^ (B - 1) := by rw [Int.natCast_pow]; rfl
  unfold SpB at h2
  refine room_le h4 hB ?_ ?_
  · rw [← e]; omega
  · rw [← e]; omega

/-! formulas whose room is about the most -/
theorem five_of {nm : List Str} (h : nm.length = 5) : ∃ a b c d e, nm = [a, b, c, d, e] := by
  match nm, h with
  | [a, b, c, d, e], _ => exact ⟨a, b, c, d, e, rfl⟩
theorem four_at {i : Int} (h : 0 ≤ i ∧ i < 4) : ∃ t, atI [V.int (-1), V.int 0, V.int 1, V.int 2] i = some (.int t) ∧ -1 ≤ t ∧ t ≤ 2 := by
  have : i = 0 ∨ i = 1 ∨ i = 2 ∨ i = 3 := by omega
  rcases this with rfl | rfl | rfl | rfl
  · exact ⟨-1, rfl, by decide, by decide⟩
  · exact ⟨0, rfl, by decide, by decide⟩
  · exact ⟨1, rfl, by decide, by decide⟩
  · exact ⟨2, rfl, by decide, by decide⟩
theorem eight_at {i : Int} (h : 0 ≤ i ∧ i < 8) : ∃ t, atI [V.int 1, V.int 2, V.int 5, V.int 9, V.int 15, V.int 20, V.int 24, V.int 12] i = some (.int t) ∧ 1 ≤ t ∧ t ≤ 24 := by
  have : i = 0 ∨ i = 1 ∨ i = 2 ∨ i = 3 ∨ i = 4 ∨ i = 5 ∨ i = 6 ∨ i = 7 := by omega
  rcases this with rfl | rfl | rfl | rfl | rfl | rfl | rfl | rfl
  · exact ⟨1, rfl, by decide, by decide⟩
  · exact ⟨2, rfl, by decide, by decide⟩
  · exact ⟨5, rfl, by decide, by decide⟩
  · exact ⟨9, rfl, by decide, by decide⟩
  · exact ⟨15, rfl, by decide, by decide⟩
  · exact ⟨20, rfl, by decide, by decide⟩
  · exact ⟨24, rfl, by decide, by decide⟩
  · exact ⟨12, rfl, by decide, by decide⟩
def sp_law_drawn (K : PySem.W.Frag) : Sp := fun vs H Q _ => ∃ (pn : Addr) (sd sz : Int) (nm : List Str), vs = [.ref pn, .int sd, .int sz] ∧ SqL K H pn (nm.map V.str) ∧ nm.length = 5 ∧ 1 ≤ sz.natAbs ∧ sz.natAbs ≤ 24 ∧ Builtin.Int.intBits sd ≤ 1048582 ∧
  ∀ (f : Fm) p H', FmOk (· ∈ nm) f → f.size ≤ 13 → lvF f ≤ 6 → Same H H' → FmAt H' p f → Q (.ref p) H'
theorem ok_law_drawn (T : Top K mg) : FnOk P w K mg base CX0 1 T.a_law_drawn T.d_law_drawn ["_law_names_here", "_law_seed", "_law_size"] (sp_law_drawn K) := by
  refine T.f_law_drawn.ok sc_law_drawn (fun vs H Q E h => ?_) (fun cdv A outer s H vs Q E hr h => ?_)
  · obtain ⟨pn, sd, sz, nm, rfl, _⟩ := h
    rfl
  obtain ⟨pn, sd, sz, nm, rfl, h⟩ := h
  refine ⟨_, (pss_cons (ps_set (i := 3) sc_law_drawn.nd rfl (.inl rfl) pe_int)
      (pss_cons (ps_for PassesOwn.never rfl (pi_range1 (by rfl) T.z_range (pa_cons (pe_op op_add (pe_op op_sub pe_int (pe_callB c_abs (by rfl) T.z_abs (by decide +kernel) (pa_cons (pv 2) pa_nil))) (pe_ix (ix_listK K) (pe_lst (pa_cons (pe_un un_neg pe_int) (pa_cons pe_int (pa_cons pe_int (pa_cons pe_int pa_nil))))) (pe_op op_mod (pe_op op_fdiv (pv 1) pe_int) pe_int) (fun _ _ => rfl))) pa_nil)) (pg_name (i := 4) sc_law_drawn.nd rfl (.inl rfl))
      (pss_one (ps_set (i := 3) sc_law_drawn.nd rfl (.inl rfl) (pe_op op_mulI (pv 3) pe_int))))
      (pss_cons (ps_set (i := 5) sc_law_drawn.nd rfl (.inl rfl) (pe_tup (pa_cons pe_str (pa_cons (pe_tup (pa_cons pe_str (pa_cons (pe_ix (ix_listK K) (pv 0) pe_int (fun _ _ => rfl)) pa_nil))) (pa_cons (pe_tup (pa_cons pe_str (pa_cons (pv 3) pa_nil))) pa_nil)))))
      (Evl.pss_cut (ps_if (pt_cmpR op_gt (pv 3) (pe_op op_pow pe_int pe_int) (nomark _)) (pss_one (ps_set (i := 5) sc_law_drawn.nd rfl (.inl rfl) (pe_tup (pa_cons pe_str (pa_cons (pe_tup (pa_cons pe_str (pa_cons (pe_tup (pa_cons pe_str (pa_cons (pe_ix (ix_listK K) (pv 0) pe_int (fun _ _ => rfl)) pa_nil))) (pa_cons (pe_tup (pa_cons pe_str (pa_cons (pe_op op_fdiv (pv 3) pe_int) pa_nil))) pa_nil)))) (pa_cons (pe_tup (pa_cons pe_str (pa_cons pe_int pa_nil))) pa_nil)))))) pss_nil)
      (pss_cons (ps_set (i := 6) sc_law_drawn.nd rfl (.inl rfl) (pe_op op_mod (pe_op op_fdiv (pv 1) pe_int) pe_int))
      (pss_cons (ps_if (pt_cmpR op_eq (pv 6) pe_int (nomark _)) (pss_cons (ps_set (i := 7) sc_law_drawn.nd rfl (.inl rfl) (pe_tup (pa_cons pe_str (pa_cons (pe_tup (pa_cons pe_str (pa_cons (pe_op op_sub (pe_op op_pow pe_int pe_int) (pe_op op_mod (pv 1) pe_int)) pa_nil))) (pa_cons (pe_tup (pa_cons pe_str (pa_cons (pe_op op_pow pe_int pe_int) pa_nil))) pa_nil)))))
      (pss_one (ps_ret (pe_tup (pa_cons pe_str (pa_cons (pe_tup (pa_cons pe_str (pa_cons (pe_ix (ix_listK K) (pv 0) pe_int (fun _ _ => rfl)) pa_nil))) (pa_cons (pe_tup (pa_cons pe_str (pa_cons (pv 7) (pa_cons (pv 7) pa_nil)))) pa_nil))))))) pss_nil)
      (pss_cons (ps_if (pt_cmpR op_eq (pv 6) pe_int (nomark _)) (pss_one (ps_ret (pe_tup (pa_cons pe_str (pa_cons (pv 5) pa_nil))))) pss_nil)
      (pss_cons (ps_if (pt_cmpR op_eq (pv 6) pe_int (nomark _)) (pss_one (ps_ret (pe_tup (pa_cons pe_str (pa_cons (pe_tup (pa_cons pe_str (pa_cons (pe_op op_mod (pv 1) pe_int) pa_nil))) (pa_cons (pv 5) pa_nil)))))) pss_nil)
      (pss_cons (ps_if (pt_cmpR op_eq (pv 6) pe_int (nomark _)) (pss_one (ps_ret (pe_tup (pa_cons pe_str (pa_cons (pv 5) (pa_cons (pv 5) pa_nil)))))) pss_nil)
      (pss_cons (ps_if (pt_cmpR op_eq (pv 6) pe_int (nomark _)) (pss_one (ps_ret (pe_tup (pa_cons pe_str (pa_cons (pe_tup (pa_cons pe_str (pa_cons (pe_ix (ix_listK K) (pv 0) pe_int (fun _ _ => rfl)) pa_nil))) (pa_cons (pe_tup (pa_cons pe_str (pa_cons (pv 5) (pa_cons (pe_tup (pa_cons pe_str (pa_cons (pe_ix (ix_listK K) (pv 0) pe_int (fun _ _ => rfl)) pa_nil))) pa_nil)))) pa_nil)))))) pss_nil)
      (pss_one (ps_ret (pv 5))))))))))))), ?_⟩
  try dsimp only [cxOf, Cx.nox, Cx.wish]
  simp only [L2.start, List.map_cons, List.map_nil, List.length_cons, List.length_nil, Nat.reduceAdd, Nat.reduceSub, List.replicate_succ, List.replicate_zero, List.cons_append, List.nil_append]
  obtain ⟨hS, hnl, hz1, hz2, hfb0, h⟩ := h
  have hfb : Builtin.Int.intBits sd ≤ 1048600 := Nat.le_trans hfb0 (by decide)
  obtain ⟨a0, a1, a2, a3, a4, rfl⟩ := five_of hnl
  have hx0 : atI ([a0, a1, a2, a3, a4].map V.str) 0 = some (.str a0) := atI_nat (j := 0) rfl
  have hx1 : atI ([a0, a1, a2, a3, a4].map V.str) 1 = some (.str a1) := atI_nat (j := 1) rfl
  have hx2 : atI ([a0, a1, a2, a3, a4].map V.str) 2 = some (.str a2) := atI_nat (j := 2) rfl
  have i0 : a0 ∈ [a0, a1, a2, a3, a4] := List.mem_cons_self ..
  have i1 : a1 ∈ [a0, a1, a2, a3, a4] := List.mem_cons_of_mem _ (List.mem_cons_self ..)
  have i2 : a2 ∈ [a0, a1, a2, a3, a4] := List.mem_cons_of_mem _ (List.mem_cons_of_mem _ (List.mem_cons_self ..))
  generalize [a0, a1, a2, a3, a4] = nm at *
  walk_at "ws"
  rename_i pl H1 n1 s1 e1
  obtain ⟨t, ht, ht1, ht2⟩ := four_at (i := sd / 48 % 4) (by omega)
  refine w_ixL (SqL.of e1) ht ?_
  walk_at "ws"
  have hN : ((48 - if sz < 0 then -sz else sz) + t).toNat ≤ 49 := by split <;> omega
  generalize ((48 - if sz < 0 then -sz else sz) + t).toNat = N at *
  have p49 : (2 : Int) ^ 49 = 562949953421312 := by decide
  have pN : ∀ i, i ≤ 49 → (1 : Int) ≤ 2 ^ i ∧ (2 : Int) ^ i ≤ 562949953421312 := fun i hi => by
    have a := Nat.pow_le_pow_right (n := 2) (by decide) hi
    have b := Nat.one_le_two_pow (n := i)
    have e : (2 : Int) ^ i = ((2 ^ i : Nat) : Int) := by rw [Int.natCast_pow]; rfl
    have e2 : (2 : Nat) ^ 49 = 562949953421312 := by decide
    rw [e]; omega
  refine for_r (fun i σ' G => ∃ y4 : Option V, σ' = [some (.ref pn), some (.int sd), some (.int sz), some (.int (2 ^ i)), y4, none, none, none] ∧ G = H1) ⟨_, rfl, rfl⟩ (fun i σ' G hi q => ?_) (fun σ' G q => ?_)
  · obtain ⟨y4, rfl, rfl⟩ := q
    walk_at "ws"
    exact ⟨_, rfl, rfl⟩
  obtain ⟨y4, rfl, rfl⟩ := q
  obtain ⟨q1, q2⟩ := pN N hN
  generalize (2 : Int) ^ N = X at *
  clear p49 pN
  have hS1 := s1.seq hS
  walk_at "ws"
  refine w_ixL hS1 hx0 ?_
  walk_at "ws"
  rename_i p1 G1 m1 t1 f1 p2 G2 m2 t2 f2 p3 G3 m3 t3 f3
  have tt : Same G G3 := (t1.trans t2).trans t3
  have hS3 := tt.seq hS1
  refine w_cut (fun σ' G' => ∃ (W : Fm) (pw : Addr), σ' = [some (.ref pn), some (.int sd), some (.int sz), some (.int X), y4, some (.ref pw), none, none] ∧ Same G3 G' ∧ FmAt G' pw W ∧ FmOk (· ∈ nm) W ∧ W.size ≤ 5 ∧ lvF W ≤ 3) ?_ fun σ' G' k => ?_
  · have e12 : (10 : Int) ^ Int.toNat 12 = 1000000000000 := by decide
    walk_at "ws"
    · refine w_ixL hS3 hx0 ?_
      walk_at "ws"
      rename_i r1 J1 u1 v1 g1 r2 J2 u2 v2 g2 r3 J3 u3 v3 g3 r4 J4 u4 v4 g4 r5 J5 u5 v5 g5
      exact ⟨.times (.times (.name a0) (.num (X / 4096))) (.num 4096), r5, rfl, (((v1.trans v2).trans v3).trans v4).trans v5, ⟨r3, r4, g5, ⟨r1, r2, v5 _ _ (v4 _ _ g3), v5 _ _ (v4 _ _ (v3 _ _ (v2 _ _ g1))), v5 _ _ (v4 _ _ (v3 _ _ g2))⟩, v5 _ _ g4⟩, ⟨⟨i0, by constructor <;> omega⟩, by constructor <;> omega⟩, Nat.le_of_ble_eq_true rfl, Nat.le_of_ble_eq_true rfl⟩
    · rename_i hle
      rw [e12] at hle
      exact ⟨.times (.name a0) (.num X), p3, rfl, Same.refl _, ⟨p1, p2, f3, t3 _ _ (t2 _ _ f1), t3 _ _ f2⟩, ⟨i0, by constructor <;> omega⟩, Nat.le_of_ble_eq_true rfl, Nat.le_of_ble_eq_true rfl⟩
  obtain ⟨W, pw, rfl, t4, hW, okW, szW, lvW⟩ := k
  have hS4 := t4.seq hS3
  have sH : Same H G' := (s1.trans tt).trans t4
  have e12 : (10 : Int) ^ Int.toNat 12 = 1000000000000 := by decide
  walk_at "ws"
  · rename_i r1 J1 u1 v1 g1 r2 J2 u2 v2 g2 r3 J3 u3 v3 g3
    have v13 := (v1.trans v2).trans v3
    refine w_ixL (v13.seq hS4) hx1 ?_
    walk_at "ws"
    rename_i r4 J4 u4 v4 g4 r5 J5 u5 v5 g5 r6 J6 u6 v6 g6
    have v46 := (v4.trans v5).trans v6
    have sq : FmAt J6 r3 (.times (.num (10 ^ Int.toNat 12 - sd % 7)) (.num (10 ^ Int.toNat 12))) := ⟨r1, r2, v46 _ _ g3, v46 _ _ (v3 _ _ (v2 _ _ g1)), v46 _ _ (v3 _ _ g2)⟩
    have oks : FmOk (· ∈ nm) (.times (.num (10 ^ Int.toNat 12 - sd % 7)) (.num (10 ^ Int.toNat 12))) := by
      refine ⟨⟨?_, ?_⟩, ⟨?_, ?_⟩⟩ <;> rw [e12] <;> omega
    exact h (.plus (.name a1) (.less (.times (.num (10 ^ Int.toNat 12 - sd % 7)) (.num (10 ^ Int.toNat 12))) (.times (.num (10 ^ Int.toNat 12 - sd % 7)) (.num (10 ^ Int.toNat 12))))) r6 J6 ⟨i1, oks, oks⟩ (Nat.le_of_ble_eq_true rfl) (Nat.le_of_ble_eq_true rfl) ((sH.trans v13).trans v46) ⟨r4, r5, g6, v6 _ _ (v5 _ _ g4), ⟨r3, r3, v6 _ _ g5, sq, sq⟩⟩
  · rename_i r1 J1 u1 v1 g1
    exact h (.turned W) r1 J1 okW (show W.size + 1 ≤ 13 by omega) (show lvF W ≤ 6 by omega) (sH.trans v1) ⟨pw, g1, hW.same v1⟩
  · rename_i r1 J1 u1 v1 g1 r2 J2 u2 v2 g2
    exact h (.plus (.num (sd % 3)) W) r2 J2 ⟨by constructor <;> omega, okW⟩ (show 1 + W.size + 1 ≤ 13 by omega) (show 1 + lvF W ≤ 6 by omega) (sH.trans (v1.trans v2)) ⟨r1, pw, g2, v2 _ _ g1, hW.same (v1.trans v2)⟩
  · rename_i r1 J1 u1 v1 g1
    exact h (.less W W) r1 J1 ⟨okW, okW⟩ (show W.size + W.size + 1 ≤ 13 by omega) (show lvF W + lvF W ≤ 6 by omega) (sH.trans v1) ⟨pw, pw, g1, hW.same v1, hW.same v1⟩
  · refine w_ixL hS4 hx1 ?_
    walk_at "ws"
    rename_i r1 J1 u1 v1 g1
    refine w_ixL (v1.seq hS4) hx2 ?_
    walk_at "ws"
    rename_i r2 J2 u2 v2 g2 r3 J3 u3 v3 g3 r4 J4 u4 v4 g4
    exact h (.less (.name a1) (.plus W (.name a2))) r4 J4 ⟨i1, okW, i2⟩ (show 1 + (W.size + 1 + 1) + 1 ≤ 13 by omega) (show 1 + (lvF W + 1) ≤ 6 by omega) (sH.trans (((v1.trans v2).trans v3).trans v4)) ⟨r1, r3, g4, v4 _ _ (v3 _ _ (v2 _ _ g1)), ⟨pw, r2, v4 _ _ g3, hW.same (((v1.trans v2).trans v3).trans v4), v4 _ _ (v3 _ _ g2)⟩⟩
  · exact h W pw G' okW (by omega) (by omega) sH hW

/-! a part needs too many bits -/
theorem fit_kids {B : Int} {wd : List (Str × Int)} {f : Fm} : FitB B wd f ↔ roomF wd f ≤ B ∧ ∀ k ∈ kids f, FitB B wd k := by
  unfold FitB
  rw [parts_kids f]
  constructor
  · intro h
    exact ⟨h f (List.mem_cons_self ..), fun k hk p hp => h p (List.mem_cons_of_mem _ (List.mem_flatten.mpr ⟨partsF k, List.mem_map.mpr ⟨k, hk, rfl⟩, hp⟩))⟩
  · rintro ⟨h1, h2⟩ p hp
    rcases List.mem_cons.mp hp with z | z
    · rw [z]; exact h1
    · obtain ⟨l, hl, hpl⟩ := List.mem_flatten.mp z
      obtain ⟨k, hk, rfl⟩ := List.mem_map.mp hl
      exact h2 k hk p hpl
theorem num_all {N : Str → Prop} : ∀ {f : Fm}, FmOk N f → NumLe ((2 ^ 40 : Nat) : Int) f
  | .name _, _ => trivial
  | .num n, h => by
    have h : 0 ≤ n ∧ n ≤ 1000000000000 := h
    have e : (2 : Nat) ^ 40 = 1099511627776 := by decide
    show n ≤ ((2 ^ 40 : Nat) : Int)
    rw [e]; omega
  | .turned f, h => num_all (f := f) h
  | .plus f g, h => ⟨num_all h.1, num_all h.2⟩
  | .less f g, h => ⟨num_all h.1, num_all h.2⟩
  | .times f g, h => ⟨num_all h.1, num_all h.2⟩
theorem span_small {N : Str → Prop} {wd : List (Str × Int)} {f : Fm} (wok : WdOk wd) (ok : FmOk N f) : SpB (spanF wd f) ((2 ^ 40) ^ lvF f) := by
  refine span_lv (N := N) (M := 2 ^ 40) (by decide) (fun n v hv => ?_) ok (num_all ok)
  have := spanW_bd (wok n v hv)
  unfold SpB
  have e : (2 : Nat) ^ 40 = 1099511627776 := by decide
  omega
theorem room_small {N : Str → Prop} {wd : List (Str × Int)} {f : Fm} {m : Nat} {b : Bool} (wok : WdOk wd) (ok : FmOk N f) (hs : f.size ≤ 60) (r : RoomOk (spanF wd f).1 (spanF wd f).2 m b) : m ≤ 5000 := by
  have h1 := span_small wok ok
  have h2 := lv_size f
  have h3 := span_le wok f
  have h4 : ((2 : Nat) ^ 40) ^ lvF f ≤ 2 ^ 2000 := by
    rw [← Nat.pow_mul]
    exact Nat.pow_le_pow_right (by decide) (by omega)
  have e : ((2 ^ 2000 : Nat) : Int) = (2 : Int) ^ 2000 := by rw [Int.natCast_pow]; rfl
  have h5 : (2 : Nat) ^ 2000 < 2 ^ (2002 - 1) := Nat.pow_lt_pow_right (by decide) (by decide)
  have e2 : ((2 ^ (2002 - 1) : Nat) : Int) = (2 : Int) ^ (2002 - 1) := by rw [Int.natCast_pow]; rfl
  unfold SpB at h1
  have q := room_le (B := 2002) h3 (by decide) (by rw [← e2]; omega) (by rw [← e2]; omega)
  rw [r.eq] at q
  have q : (m : Int) ≤ ((2002 : Nat) : Int) := q
  omega
def sp_law_wide (K : PySem.W.Frag) (n : Nat) : Sp := fun vs H Q _ => ∃ (p d : Addr) (f : Fm) (wd : List (Str × Int)) (N : Str → Prop), vs = [.ref p, .ref d] ∧ FmAt H p f ∧ H d = some (.dK (wkv wd)) ∧ FmOk N f ∧ Has N wd ∧ WdOk wd ∧ f.size ≤ n ∧ f.size ≤ 31 ∧
  (FitB 48 wd f → ∀ H', Same H H' → Q (.bl false) H') ∧ (¬ FitB 48 wd f → ∀ H', Same H H' → Q (.bl true) H')
theorem no_law_wide {vs : List V} {H : Hp} {Q : VK} {E : XK} (h : sp_law_wide K 0 vs H Q E) : False := by
  obtain ⟨p, d, f, wd, N, _, _, _, _, _, _, h0, _⟩ := h
  have := f.size_pos
  omega
theorem rec_law_wide (T : Top K mg) (n : Nat) (ih : FnOk P w K mg base CX0 (63 + n) T.a_law_wide T.d_law_wide ["_law_formula", "_law_widths"] (sp_law_wide K n)) : FnOk P w K mg base CX0 (63 + n + 1) T.a_law_wide T.d_law_wide ["_law_formula", "_law_widths"] (sp_law_wide K (n + 1)) := by
  refine T.f_law_wide.ok sc_law_wide (fun vs H Q E h => ?_) (fun cdv A outer s H vs Q E hr h => ?_)
  · obtain ⟨p, d, f, wd, N, rfl, _⟩ := h
    rfl
  obtain ⟨p, d, f, wd, N, rfl, h⟩ := h
  refine ⟨_, (pss_cons (ps_if (pt_cmpR op_gt (pe_ix (ix_tupK K) (pe_call (ok_law_room T) (hr.mono (by omega)) (by rfl) T.g_law_room T.f_law_room.kp T.b_law_room .nil pass0 (pa_cons (pe_call (ok_law_span T) (hr.mono (by omega)) (by rfl) T.g_law_span T.f_law_span.kp T.b_law_span .nil pass0 (pa_cons (pv 0) (pa_cons (pv 1) pa_nil))) pa_nil)) pe_int (fun _ _ => rfl)) pe_int (nomark _)) (pss_one (ps_ret pe_bl)) pss_nil)
      (pss_cons (ps_if (pt_cmpR (op_inK K) (pe_ix (ix_tupK K) (pv 0) pe_int (fun _ _ => rfl)) (pe_tup (pa_cons pe_str (pa_cons pe_str pa_nil))) (by rfl)) (pss_one (ps_ret pe_bl)) pss_nil)
      (pss_cons (ps_for PassesOwn.never rfl (pi_tup (pe_slice sl_tup (pv 0) (po_some pe_int) po_none)) (pg_name (i := 2) sc_law_wide.nd rfl (.inl rfl))
      (pss_one (ps_if (pt_val (pe_call ih hr (by rfl) T.g_law_wide T.f_law_wide.kp T.b_law_wide .nil pass0 (pa_cons (pv 2) (pa_cons (pv 1) pa_nil)))) (pss_one (ps_ret pe_bl)) pss_nil)))
      (pss_one (ps_ret pe_bl))))), ?_⟩
  try dsimp only [cxOf, Cx.nox, Cx.wish]
  simp only [L2.start, List.map_cons, List.map_nil, List.length_cons, List.length_nil, Nat.reduceAdd, Nat.reduceSub, List.replicate_succ, List.replicate_zero, List.cons_append, List.nil_append]
  obtain ⟨hp, hd, ok, has, wok, hn, hk, hF, hT⟩ := h
  obtain ⟨xs, ex⟩ := hp.head
  obtain ⟨m, b, rok⟩ := room_ok (span_le wok f)
  have hm := room_small wok ok (by omega) rok
  have hroom : roomF wd f = (m : Int) := by unfold roomF; rw [rok.eq]
  walk_at "ws"
  refine ⟨p, d, f, wd, N, rfl, hp, hd, ok, has, wok, by omega, by omega, fun q1 H1 n1 s1 e1 => ?_⟩
  walk_at "ws"
  refine ⟨q1, _, _, m, b, rfl, SqT.of e1, rok, hm, fun q2 H2 n2 s2 e2 => ?_⟩
  have s12 := s1.trans s2
  have ex2 := s12 _ _ ex
  walk_at "ws"
  · rename_i hgt
    exact hT (fun z => by have := (fit_kids.mp z).1; rw [hroom] at this; omega) _ s12
  · rename_i hle
    refine w_ixT (SqT.of ex2) at_0 ?_
    walk_at "ws"
    · rename_i p3 H3 n3 s3 e3 hin
      have hlf : leafB f = true := by rw [leaf_in] at hin; exact hin
      refine hF (fit_kids.mpr ⟨by rw [hroom]; omega, fun k hk => ?_⟩) _ (s12.trans s3)
      have hk0 : kids f = [] := by cases f <;> first | rfl | cases hlf
      rw [hk0] at hk
      cases hk
    · rename_i p3 H3 n3 s3 e3 hin l H4 n4 s4 e4
      have hlf : leafB f = false := by rw [leaf_in] at hin; exact hin
      obtain ⟨ks, ek, hA⟩ := hp.kids hlf
      rw [ex] at ek
      cases ek
      have s14 := (s12.trans s3).trans s4
      have lks : (ks.map V.ref).length = (kids f).length := by rw [List.length_map, hA.1]
      refine for_t (ks.map V.ref) (fun i σ' G => ∃ (y2 : Option V), σ' = [some (.ref p), some (.ref d), y2] ∧ Same H G ∧ SqT K G l (ks.map V.ref) ∧ ∀ g ∈ (kids f).take i, FitB 48 wd g)
        ⟨_, rfl, s14, SqT.of e4, fun _ z => by rw [List.take_zero] at z; cases z⟩ (fun i σ' G _ q => ?_) (fun i x σ' G hx q => ?_) (fun σ' G q => ?_)
      · obtain ⟨y2, rfl, sG, hT2, _⟩ := q
        exact hT2
      · obtain ⟨y2, rfl, sG, hT2, hfit⟩ := q
        obtain ⟨pk, hpki, rfl⟩ := get_map hx
        obtain ⟨g, hgi, hg⟩ := hA.get hpki
        have hgm := List.mem_of_getElem? hgi
        have gsz := kid_size hgm
        have hgp : g ∈ partsF f := by rw [parts_kids f]; exact List.mem_cons_of_mem _ (List.mem_flatten.mpr ⟨partsF g, List.mem_map.mpr ⟨g, hgm, rfl⟩, self_part g⟩)
        walk_at "ws"
        refine ⟨pk, d, g, wd, N, rfl, hg.same sG, sG _ _ hd, (part_ok ok hgp).1, has, wok, by omega, by omega, fun fg G2 sG2 => ?_, fun hn2 G2 sG2 => ?_⟩
        · walk_at "ws"
          refine ⟨_, rfl, sG.trans sG2, same_tup sG2 hT2, fun k hk => ?_⟩
          rw [take_snoc hgi] at hk
          rcases List.mem_append.mp hk with z | z
          · exact hfit k z
          · rw [List.mem_singleton.mp z]
            exact fg
        · walk_at "ws"
          exact hT (fun z => hn2 ((fit_kids.mp z).2 g hgm)) _ (sG.trans sG2)
      · obtain ⟨y2, rfl, sG, hT2, hfit⟩ := q
        rw [lks, List.take_of_length_le (Nat.le_refl _)] at hfit
        walk_at "ws"
        exact hF (fit_kids.mpr ⟨by rw [hroom]; omega, hfit⟩) _ sG
theorem all_law_wide (T : Top K mg) : ∀ n : Nat, FnOk P w K mg base CX0 (63 + n) T.a_law_wide T.d_law_wide ["_law_formula", "_law_widths"] (sp_law_wide K n)
  | 0 => T.f_law_wide.ok (k := 62) sc_law_wide (fun _ _ _ _ h => (no_law_wide h).elim) (fun _ _ _ _ _ _ _ _ _ h => (no_law_wide h).elim)
  | n + 1 => rec_law_wide T n (all_law_wide T n)
theorem ok_law_wide (T : Top K mg) : FnOk P w K mg base CX0 94 T.a_law_wide T.d_law_wide ["_law_formula", "_law_widths"] (sp_law_wide K 31) := all_law_wide T 31

/-! asked for a circuit: what is refused -/
theorem exc_NoName (T : Top K mg) : ExcC K T.c_NoName := ⟨T.ega_NoName, T.egg_NoName, T.xb_NoName, T.ehd_NoName, T.ecl_NoName, T.esp_NoName, T.etk_NoName, T.emr_NoName⟩
theorem exc_TooWide (T : Top K mg) : ExcC K T.c_TooWide := ⟨T.ega_TooWide, T.egg_TooWide, T.xb_TooWide, T.ehd_TooWide, T.ecl_TooWide, T.esp_TooWide, T.etk_TooWide, T.emr_TooWide⟩
def sp_law_asked (K : PySem.W.Frag) : Sp := fun vs H Q _ => ∃ (p d : Addr) (f : Fm) (wd : List (Str × Int)) (N : Str → Prop), vs = [.ref p, .ref d] ∧ FmAt H p f ∧ H d = some (.dK (wkv wd)) ∧ FmOk N f ∧ WdOk wd ∧ f.size ≤ 30 ∧ costF 2304 7345 f ≤ 280000 ∧
  (¬ HasF wd f → ∀ H', Same H H' → Q (.str "no name") H') ∧
  (HasF wd f → ¬ FitB 48 wd f → ∀ H', Same H H' → Q (.str "wide") H') ∧
  (HasF wd f → FitB 48 wd f → ∀ (outs : List Nat) (R : List Row) (m : Nat) (b : Bool) (cp : Addr) H', MadeAt K H H' wd f cp R outs m b → Q (.ref cp) H')
theorem ok_law_asked (T : Top K mg) : FnOk P w K mg base CX0 171 T.a_law_asked T.d_law_asked ["_law_formula", "_law_widths"] (sp_law_asked K) := by
  refine T.f_law_asked.ok sc_law_asked (fun vs H Q E h => ?_) (fun cdv A outer s H vs Q E hr h => ?_)
  · obtain ⟨p, d, f, wd, N, rfl, _⟩ := h
    rfl
  obtain ⟨p, d, f, wd, N, rfl, h⟩ := h
  refine ⟨_, (pss_cons (ps_set (i := 2) sc_law_asked.nd rfl (.inl rfl) pe_non)
      (pss_cons (ps_set (i := 3) sc_law_asked.nd rfl (.inl rfl) pe_non)
      (pss_cons (ps_try_named (i := 4) rfl rfl rfl sc_law_asked.nd rfl rfl takes0 (fun W pn xe tk ow => (pss_one (ps_set (i := 2) sc_law_asked.nd rfl (.inl rfl) (pe_callS (ok_circuit_of T) (hr.mono (by decide)) (by rfl) T.g_circuit_of T.f_circuit_of.kp T.b_circuit_of (fun σ => passAt tk σ) (pa_cons (pv 0) (pa_cons (pv 1) (pa_cons (pe_lst pa_nil) (pa_cons (pe_lst pa_nil) pa_nil))))))))
      (.cons ⟨rfl, by decide, .inl T.gc_NoName⟩ (fun a oe cls d pn hz hf => (pss_one (ps_set (i := 3) sc_law_asked.nd rfl (.inl rfl) (pv 4))))
      (.cons ⟨rfl, by decide, .inl T.gc_TooWide⟩ (fun a oe cls d pn hz hf => (pss_one (ps_set (i := 3) sc_law_asked.nd rfl (.inl rfl) (pv 4))))
      .nil)))
      (pss_cons (ps_if (pt_cmpR op_isNo (pv 3) pe_non (nomark _)) (pss_one (ps_ret (pv 2))) pss_nil)
      (pss_cons (ps_if (pt_val (pe_callB (c_isxT K) (by rfl) T.z_isinstance (by decide +kernel) (pa_cons (pv 3) (pa_cons (pe_tup (pa_cons (pe_glob (v := .ref T.c_TooFew) (by rfl) T.gc_TooFew rfl) (pa_cons (pe_glob (v := .ref T.c_TooMany) (by rfl) T.gc_TooMany rfl) (pa_cons (pe_glob (v := .ref T.c_NoFormula) (by rfl) T.gc_NoFormula rfl) (pa_cons (pe_glob (v := .ref T.c_NoLine) (by rfl) T.gc_NoLine rfl) (pa_cons (pe_glob (v := .ref T.c_NoCircuit) (by rfl) T.gc_NoCircuit rfl) (pa_cons (pe_glob (v := .ref T.c_OutOfWidth) (by rfl) T.gc_OutOfWidth rfl) pa_nil))))))) pa_nil)))) (pss_one (ps_ret pe_non)) pss_nil)
      (pss_cons (ps_if (PW.pt (pw_or (pt_not (pt_val (pe_callB (c_isx K) (by rfl) T.z_isinstance (by decide +kernel) (pa_cons (pv 3) (pa_cons (pe_glob (v := .ref T.c_PressError) (by rfl) T.gc_PressError rfl) pa_nil))))) (pw_or1 (pt_cmpR op_eq (pe_callB (c_isx K) (by rfl) T.z_isinstance (by decide +kernel) (pa_cons (pv 3) (pa_cons (pe_glob (v := .ref T.c_NoName) (by rfl) T.gc_NoName rfl) pa_nil))) (pe_callB (c_isx K) (by rfl) T.z_isinstance (by decide +kernel) (pa_cons (pv 3) (pa_cons (pe_glob (v := .ref T.c_TooWide) (by rfl) T.gc_TooWide rfl) pa_nil))) (nomark _))))) (pss_one (ps_ret pe_non)) pss_nil)
      (pss_one (ps_ret (pe_ix (ix_listK K) (pe_lst (pa_cons pe_str (pa_cons pe_str pa_nil))) (pe_callTy c_intB (by rfl) T.z_int (by decide +kernel) (pa_cons (pe_callB (c_isx K) (by rfl) T.z_isinstance (by decide +kernel) (pa_cons (pv 3) (pa_cons (pe_glob (v := .ref T.c_TooWide) (by rfl) T.gc_TooWide rfl) pa_nil))) pa_nil)) (fun _ _ => rfl)))))))))), ?_⟩
  try dsimp only [cxOf, Cx.nox, Cx.wish]
  simp only [L2.start, List.map_cons, List.map_nil, List.length_cons, List.length_nil, Nat.reduceAdd, Nat.reduceSub, List.replicate_succ, List.replicate_zero, List.cons_append, List.nil_append]
  obtain ⟨hf, ed, ok, wok, hsz, hcost, hN, hW, hQ⟩ := h
  walk_at "ws"
  rename_i po H1 n1 s1 e1 ps H2 n2 s2 e2
  have s12 := s1.trans s2
  refine ⟨p, d, .ref po, .ref ps, f, wd, some [], [], N, 48, 2304, 7345, rfl, hf.same s12, s12 _ _ ed, ok, wok, hsz, ⟨⟨_, rfl, s2 _ _ e1⟩, by decide⟩, .inr ⟨ps, rfl, e2⟩, fun _ z => z, by decide, by decide, by decide, by omega, fun hn C H0 hC s0 => ?_, fun hh hn C H0 hC s0 => ?_, fun hh hfit outs R m b cp C dx ra oa Hd rok mok hRl ncp ecp hC hMR hoa sd => ?_⟩
  · obtain rfl := hC.one T.nc_NoName
    refine w_hit T.m_NoName_NoName fun a na => ?_
    walk_at "ws"
    refine w_keep fun H3 s3 e3 => ?_
    have X := exc_NoName T
    walk_at "ws"
    rename_i tp H4 n4 s4 e4
    have e34 := s4 _ _ e3
    refine w_isxT0 (cs := [T.c_TooFew, T.c_TooMany, T.c_NoFormula, T.c_NoLine, T.c_NoCircuit, T.c_OutOfWidth]) e34 X e4 (fun c m => ?_) ?_
    · simp only [List.mem_cons, List.not_mem_nil, or_false] at m
      rcases m with rfl | rfl | rfl | rfl | rfl | rfl
      · exact T.k_NoName_TooFew
      · exact T.k_NoName_TooMany
      · exact T.k_NoName_NoFormula
      · exact T.k_NoName_NoLine
      · exact T.k_NoName_NoCircuit
      · exact T.k_NoName_OutOfWidth
    walk_at "ws"
    refine w_isx e34 X (.own _) T.k_NoName_PressError ?_
    walk_at "ws"
    refine w_isx e34 X (.own _) T.k_NoName_NoName ?_
    walk_at "ws"
    refine w_isx e34 X (.own _) T.k_NoName_TooWide ?_
    walk_at "ws"
    rename_i pl H5 n5 s5 e5
    refine w_isx (s5 _ _ e34) X (.own _) T.k_NoName_TooWide ?_
    walk_at "ws"
    exact hN hn _ ((s12.trans s0).trans ((s3.trans s4).trans s5))
  · obtain rfl := hC.one T.nc_TooWide
    refine w_miss T.m_TooWide_NoName ?_
    refine w_hit T.m_TooWide_TooWide fun a na => ?_
    walk_at "ws"
    refine w_keep fun H3 s3 e3 => ?_
    have X := exc_TooWide T
    walk_at "ws"
    rename_i tp H4 n4 s4 e4
    have e34 := s4 _ _ e3
    refine w_isxT0 (cs := [T.c_TooFew, T.c_TooMany, T.c_NoFormula, T.c_NoLine, T.c_NoCircuit, T.c_OutOfWidth]) e34 X e4 (fun c m => ?_) ?_
    · simp only [List.mem_cons, List.not_mem_nil, or_false] at m
      rcases m with rfl | rfl | rfl | rfl | rfl | rfl
      · exact T.k_TooWide_TooFew
      · exact T.k_TooWide_TooMany
      · exact T.k_TooWide_NoFormula
      · exact T.k_TooWide_NoLine
      · exact T.k_TooWide_NoCircuit
      · exact T.k_TooWide_OutOfWidth
    walk_at "ws"
    refine w_isx e34 X (.own _) T.k_TooWide_PressError ?_
    walk_at "ws"
    refine w_isx e34 X (.own _) T.k_TooWide_NoName ?_
    walk_at "ws"
    refine w_isx e34 X (.own _) T.k_TooWide_TooWide ?_
    walk_at "ws"
    rename_i pl H5 n5 s5 e5
    refine w_isx (s5 _ _ e34) X (.own _) T.k_TooWide_TooWide ?_
    walk_at "ws"
    exact hW hh hn _ ((s12.trans s0).trans ((s3.trans s4).trans s5))
  · walk_at "ws"
    exact hQ hh hfit outs R m b cp Hd ⟨rok, mok, by omega, ⟨C, dx, ra, oa, ecp, hC, hMR, hoa⟩, s12.free ncp, s12.trans sd⟩

theorem toldL_all {N : Str → Prop} (ws : List (Str × Int)) {R : List Row} (ok : RowsOk N R) : ∀ x ∈ toldL ws R, x = 0 ∨ x = 1 := fun x hx => by
  have h := toldL_01 ws ok R.length
  rw [List.take_of_length_le (Nat.le_refl _)] at h
  exact h x hx
/-! refused, or made and right -/
def sp_law_held (K : PySem.W.Frag) : Sp := fun vs H Q _ => ∃ (p d : Addr) (sd : Int) (f : Fm) (wd : List (Str × Int)) (N : Str → Prop), vs = [.ref p, .ref d, .int sd] ∧ FmAt H p f ∧ H d = some (.dK (wkv wd)) ∧ FmOk N f ∧ WdOk wd ∧ f.size ≤ 30 ∧ costF 2304 7345 f ≤ 280000 ∧ (wd.map (·.1)).Nodup ∧ wd.length ≤ 100 ∧ Builtin.Int.intBits sd ≤ 1048582 ∧ ∀ H', Same H H' → Q (.bl true) H'
theorem ok_law_held (T : Top K mg) : FnOk P w K mg base CX0 172 T.a_law_held T.d_law_held ["_law_formula", "_law_widths", "_law_seed"] (sp_law_held K) := by
  refine T.f_law_held.ok sc_law_held (fun vs H Q E h => ?_) (fun cdv A outer s H vs Q E hr h => ?_)
  · obtain ⟨p, d, sd, f, wd, N, rfl, _⟩ := h
    rfl
  obtain ⟨p, d, sd, f, wd, N, rfl, h⟩ := h
  refine ⟨_, (pss_cons (ps_set (i := 3) sc_law_held.nd rfl (.inl rfl) (pe_bm0 PySem.F.plainAttrs_dict PySem.F.slot_dict_copy PySem.F.type_dict_copy mt_copyD (pv 1)))
      (pss_cons (ps_set (i := 4) sc_law_held.nd rfl (.inl rfl) (pe_call (ok_law_asked T) (hr.mono (by decide)) (by rfl) T.g_law_asked T.f_law_asked.kp T.b_law_asked .nil pass0 (pa_cons (pv 0) (pa_cons (pv 3) pa_nil))))
      (pss_cons (ps_if (pt_cmpR (op_ne_dictA hr.units0) (pv 3) (pv 1) (nomark _)) (pss_one (ps_ret pe_bl)) pss_nil)
      (pss_cons (ps_for PassesOwn.never rfl (pi_list (pe_call (ok_law_names_of T) (hr.mono (by decide)) (by rfl) T.g_law_names_of T.f_law_names_of.kp T.b_law_names_of .nil pass0 (pa_cons (pv 0) pa_nil))) (pg_name (i := 5) sc_law_held.nd rfl (.inl rfl))
      (pss_one (ps_if (pt_cmp (pc_dnotin (hu_of hr) (pv 5) (pv 1))) (pss_one (ps_ret (pe_cmpR op_eq (pv 4) pe_str (nomark _)))) pss_nil)))
      (pss_cons (ps_if (pt_val (pe_call (ok_law_wide T) (hr.mono (by decide)) (by rfl) T.g_law_wide T.f_law_wide.kp T.b_law_wide .nil pass0 (pa_cons (pv 0) (pa_cons (pv 1) pa_nil)))) (pss_one (ps_ret (pe_cmpR op_eq (pv 4) pe_str (nomark _)))) pss_nil)
      (pss_cons (ps_if (pt_not (pt_val (pe_call (ok_law_formed T) (hr.mono (by decide)) (by rfl) T.g_law_formed T.f_law_formed.kp T.b_law_formed .nil pass0 (pa_cons (pv 4) (pa_cons (pv 0) (pa_cons (pv 1) pa_nil)))))) (pss_one (ps_ret pe_bl)) pss_nil)
      (pss_cons (ps_for PassesOwn.never rfl (pi_range1 (by rfl) T.z_range (pa_cons pe_int pa_nil)) (pg_name (i := 6) sc_law_held.nd rfl (.inl rfl))
      (pss_cons (ps_set (i := 7) sc_law_held.nd rfl (.inl rfl) (pe_call (ok_law_words T) (hr.mono (by decide)) (by rfl) T.g_law_words T.f_law_words.kp T.b_law_words .nil pass0 (pa_cons (pv 1) (pa_cons (pv 2) (pa_cons (pv 6) pa_nil)))))
      (pss_cons (ps_set (i := 8) sc_law_held.nd rfl (.inl rfl) (pe_call (ok_law_bits T) (hr.mono (by decide)) (by rfl) T.g_law_bits T.f_law_bits.kp T.b_law_bits .nil pass0 (pa_cons (pe_fld (pv 4) rfl) (pa_cons (pv 7) pa_nil))))
      (pss_one (ps_if (pt_cmpR op_ne (pe_call (ok_law_number T) (hr.mono (by decide)) (by rfl) T.g_law_number T.f_law_number.kp T.b_law_number .nil pass0 (pa_cons (pv 8) (pa_cons (pe_fld (pv 4) rfl) (pa_cons (pe_fld (pv 4) rfl) pa_nil)))) (pe_call (ok_law_worth T) (hr.mono (by decide)) (by rfl) T.g_law_worth T.f_law_worth.kp T.b_law_worth .nil pass0 (pa_cons (pv 0) (pa_cons (pv 7) pa_nil))) (nomark _)) (pss_one (ps_ret pe_bl)) pss_nil)))))
      (pss_one (ps_ret pe_bl))))))))), ?_⟩
  try dsimp only [cxOf, Cx.nox, Cx.wish]
  simp only [L2.start, List.map_cons, List.map_nil, List.length_cons, List.length_nil, Nat.reduceAdd, Nat.reduceSub, List.replicate_succ, List.replicate_zero, List.cons_append, List.nil_append]
  obtain ⟨hf, ed, ok, wok, hsz, hcost, nd, hwl, hfb, h⟩ := h
  have hfo := ok_names ok
  walk_at "ws"
  rename_i dh H1 n1 s1 e1
  have ed1 := s1 _ _ ed
  have hnl := names_le f
  have hnml : ((namesF f).map V.str).length = (namesF f).length := List.length_map ..
  have nn : decide (V.str "no name" = V.str "no name") = true := decide_eq_true rfl
  have ww : decide (V.str "wide" = V.str "wide") = true := decide_eq_true rfl
  have all : (∀ m ∈ (namesF f).take (namesF f).length, ∃ v, lookW wd m = some v) → HasF wd f := fun hh n hn => hh n (by rw [List.take_of_length_le (Nat.le_refl _)]; exact hn)
  refine ⟨p, dh, f, wd, N, rfl, hf.same s1, e1, ok, wok, hsz, hcost, fun hn H2 s2 => ?_, fun hh hn H2 s2 => ?_, fun hh hfit outs R m b cp H2 made => ?_⟩
  · walk_at "ws"
    refine w_neDict (s2 _ _ e1) (s2 _ _ ed1) nd ?_
    walk_at "ws"
    refine ⟨p, f, rfl, (hf.same s1).same s2, by omega, by omega, fun q H3 n3 s3 e3 => ?_⟩
    have ed3 := s3 _ _ (s2 _ _ ed1)
    walk_at "ws"
    refine for_l ((namesF f).map V.str) (fun i σ' G => ∃ (y5 : Option V), σ' = [some (.ref p), some (.ref d), some (.int sd), some (.ref dh), some (.str "no name"), y5, none, none, none] ∧ G = H3 ∧ ∀ m ∈ (namesF f).take i, ∃ v, lookW wd m = some v) ⟨_, rfl, rfl, fun _ z => by rw [List.take_zero] at z; cases z⟩ (fun i σ' G _ q => ?_) (fun i x σ' G hx q => ?_) (fun σ' G q => ?_)
    · obtain ⟨y5, rfl, rfl, _⟩ := q
      exact SqL.of e3
    · obtain ⟨y5, rfl, rfl, hm⟩ := q
      obtain ⟨n, hni, rfl⟩ := get_map hx
      walk_at "ws"
      refine w_NInS ed3 ?_
      cases hl : lookW wd n with
      | none =>
        rw [show (none : Option Int).isNone = true from rfl]
        walk_at "ws"
        exact h _ ((s1.trans s2).trans s3)
      | some v =>
        rw [show (some v).isNone = false from rfl]
        walk_at "ws"
        refine ⟨_, rfl, rfl, fun m hm' => ?_⟩
        rw [take_snoc hni] at hm'
        rcases List.mem_append.mp hm' with z | z
        · exact hm m z
        · cases List.mem_singleton.mp z
          exact ⟨v, hl⟩
    · obtain ⟨y5, rfl, rfl, hm⟩ := q
      exact absurd (all (by rw [hnml] at hm; exact hm)) hn
  · walk_at "ws"
    refine w_neDict (s2 _ _ e1) (s2 _ _ ed1) nd ?_
    walk_at "ws"
    refine ⟨p, f, rfl, (hf.same s1).same s2, by omega, by omega, fun q H3 n3 s3 e3 => ?_⟩
    have ed3 := s3 _ _ (s2 _ _ ed1)
    walk_at "ws"
    refine for_l ((namesF f).map V.str) (fun i σ' G => ∃ (y5 : Option V), σ' = [some (.ref p), some (.ref d), some (.int sd), some (.ref dh), some (.str "wide"), y5, none, none, none] ∧ G = H3) ⟨_, rfl, rfl⟩ (fun i σ' G _ q => ?_) (fun i x σ' G hx q => ?_) (fun σ' G q => ?_)
    · obtain ⟨y5, rfl, rfl⟩ := q
      exact SqL.of e3
    · obtain ⟨y5, rfl, rfl⟩ := q
      obtain ⟨n, hni, rfl⟩ := get_map hx
      walk_at "ws"
      refine w_NInS ed3 ?_
      obtain ⟨v, hl⟩ := hh n (List.mem_of_getElem? hni)
      rw [hl, show (some v).isNone = false from rfl]
      walk_at "ws"
      exact ⟨_, rfl, rfl⟩
    · obtain ⟨y5, rfl, rfl⟩ := q
      walk_at "ws"
      refine ⟨p, d, f, wd, (· ∈ namesF f), rfl, ((hf.same s1).same s2).same s3, ed3, hfo, hh, wok, by omega, by omega, fun hfit => absurd hfit hn, fun _ H4 s4 => ?_⟩
      walk_at "ws"
      exact h _ (((s1.trans s2).trans s3).trans s4)
  · obtain ⟨rok, mok, hRl, ⟨C, dx, ra, oa, ecp, hC, hMR, hoa⟩, ncp, s2⟩ := made
    have m48 : m ≤ 48 := by
      have h1 := hfit f (self_part f)
      unfold roomF at h1
      rw [rok.eq] at h1
      have h1 : (m : Int) ≤ 48 := h1
      omega
    walk_at "ws"
    refine w_neDict (s2 _ _ e1) (s2 _ _ ed1) nd ?_
    walk_at "ws"
    refine ⟨p, f, rfl, (hf.same s1).same s2, by omega, by omega, fun q H3 n3 s3 e3 => ?_⟩
    have ed3 := s3 _ _ (s2 _ _ ed1)
    walk_at "ws"
    refine for_l ((namesF f).map V.str) (fun i σ' G => ∃ (y5 : Option V), σ' = [some (.ref p), some (.ref d), some (.int sd), some (.ref dh), some (.ref cp), y5, none, none, none] ∧ G = H3) ⟨_, rfl, rfl⟩ (fun i σ' G _ q => ?_) (fun i x σ' G hx q => ?_) (fun σ' G q => ?_)
    · obtain ⟨y5, rfl, rfl⟩ := q
      exact SqL.of e3
    · obtain ⟨y5, rfl, rfl⟩ := q
      obtain ⟨n, hni, rfl⟩ := get_map hx
      walk_at "ws"
      refine w_NInS ed3 ?_
      obtain ⟨v, hl⟩ := hh n (List.mem_of_getElem? hni)
      rw [hl, show (some v).isNone = false from rfl]
      walk_at "ws"
      exact ⟨_, rfl, rfl⟩
    obtain ⟨y5, rfl, rfl⟩ := q
    walk_at "ws"
    refine ⟨p, d, f, wd, (· ∈ namesF f), rfl, ((hf.same s1).same s2).same s3, ed3, hfo, hh, wok, by omega, by omega, fun _ H4 s4 => ?_, fun hn => absurd hfit hn⟩
    have s24 := s3.trans s4
    have s14 := s2.trans s24
    walk_at "ws"
    refine ⟨cp, p, d, C, dx, ra, oa, f, wd, (· ∈ namesF f), R, outs, m, b, rfl, s24 _ _ ecp, hC, hMR.same s24, s24 _ _ hoa, (hf.same s1).same s14, s14 _ _ ed1, hfo, wok, by omega, hh, mok.rows, by omega, rok, by omega, mok.len, mok.lt, fun Hf s5 => ?_⟩
    obtain rfl := hC.one T.nc_Circuit
    have s2f := s24.trans s5
    have s1f := s14.trans s5
    have ecf := s2f _ _ ecp
    have edf := s1f _ _ ed1
    have hff := (hf.same s1).same s1f
    have hMf := hMR.same s2f
    have hof : NatsAt Hf oa outs := s2f _ _ hoa
    have k1 := T.cl_Circuit
    have k2 := T.n_Circuit_rows
    have k3 := T.n_Circuit_outs
    have k4 := T.n_Circuit_below
    walk_at "ws"
    refine for_r (fun i σ' G => ∃ (y6 y7 y8 : Option V), σ' = [some (.ref p), some (.ref d), some (.int sd), some (.ref dh), some (.ref cp), y5, y6, y7, y8] ∧ Same Hf G) ⟨_, _, _, rfl, Same.refl _⟩ (fun i σ' G hi q => ?_) (fun σ' G q => ?_)
    · obtain ⟨y6, y7, y8, rfl, sG⟩ := q
      have hi3 : i < 3 := hi
      have hib : ∀ n : Nat, 1048582 ≤ n → Builtin.Int.intBits (i : Int) ≤ n := fun n hn => Nat.le_trans ((ib_le (by omega) 10).mpr (show (i : Int) < 2 ^ 10 from Int.lt_of_le_of_lt (show (i : Int) ≤ 7 by omega) (by decide))) (Nat.le_trans (by decide) hn)
      have hfi : Builtin.Int.intBits (sd + (i : Int)) ≤ 1048600 := Nat.le_trans (bits_add (j := (i : Int)) hfb (hib _ (Nat.le_refl _))) (by decide)
      walk_at "ws"
      refine ⟨d, sd, (i : Int), wd, rfl, sG _ _ edf, nd, wok, by omega, hfi, by omega, by omega, fun dw ws G1 ndw sG1 edw hwi small => ?_⟩
      have sG1f := sG.trans sG1
      have ecg := sG1f _ _ ecf
      have hasW : Has (· ∈ namesF f) ws := fun n hn => by
        obtain ⟨w, hw⟩ := hh n hn
        obtain ⟨v, hv, _⟩ := hwi n w hw
        exact ⟨v, hv⟩
      walk_at "ws"
      refine ⟨ra, dw, R, ws, (· ∈ namesF f), rfl, (hMf.same sG1f).read, edw, mok.rows.ok, mok.rows.nl, hasW, by omega, fun pb G2 npb sG2 epb => ?_⟩
      have sG2f := sG1f.trans sG2
      have ecg2 := sG2f _ _ ecf
      have hlen := toldL_len ws R
      walk_at "ws"
      refine ⟨pb, oa, toldL ws R, outs, b, rfl, SqL.of epb, sG2f _ _ hof, ?_, by rw [mok.len]; omega, by omega, toldL_all ws mok.rows.ok, fun u hu => by rw [hlen]; exact mok.lt u hu, fun G3 sG3 => ?_⟩
      · intro z
        have := rok.pos
        have := mok.len
        rw [z] at this
        have h0 : ([] : List Nat).length = 0 := rfl
        omega
      have hnum := mok.num rok hh hfo ws hwi
      rw [show (outs.map fun u => (toldL ws R).getD u 0) = outs.map (bit ws R) from rfl, hnum]
      walk_at "ws"
      refine ⟨p, dw, f, ws, (· ∈ namesF f), rfl, (hff.same sG2f).same sG3, (sG2.trans sG3) _ _ edw, hfo, hasW, small, by omega, by omega, ?_⟩
      walk_at "ws"
      exact ⟨_, _, _, rfl, sG2f.trans sG3⟩
    · obtain ⟨y6, y7, y8, rfl, sG⟩ := q
      walk_at "ws"
      exact h _ ((s1.trans s1f).trans sG)

theorem nameF_ne {v sz pl : Int} (hpl : 0 ≤ pl ∧ pl < sz) {k k' : Nat} (hk : k < 5) (hk' : k' < 5) (ne : k ≠ k') : nameF v sz pl k ≠ nameF v sz pl k' := by
  intro e
  have e1 : (List.range sz.toNat).map (letF v pl (k : Int)) = (List.range sz.toNat).map (letF v pl (k' : Int)) := by
    have := congrArg (fun s : Str => s.cps.toList) e
    exact this
  have e2 := congrArg (fun l => l[pl.toNat]?) e1
  rw [List.getElem?_map, List.getElem?_map, List.getElem?_range (by omega)] at e2
  have e3 := Option.some.inj e2
  have hd : decide (V.int ((pl.toNat : Nat) : Int) = V.int pl) = true := by rw [Int.toNat_of_nonneg hpl.1]; exact decide_eq_true rfl
  unfold letF at e3
  rw [if_pos hd] at e3
  generalize v / 36 + ((pl.toNat : Nat) : Int) * ((pl.toNat : Nat) : Int) = c at e3
  omega
theorem namesL_nodup (n : Int) : (namesL n).Nodup := by
  unfold namesL namesV
  generalize mixF n 7 = v
  have hpl : 0 ≤ v / 6 % (1 + v % 6) ∧ v / 6 % (1 + v % 6) < 1 + v % 6 := ⟨Int.emod_nonneg _ (by omega), Int.emod_lt_of_pos _ (by omega)⟩
  refine List.pairwise_map.mpr ((List.nodup_range (n := 5)).imp_of_mem fun {a b} ha hb ne => nameF_ne hpl (List.mem_range.mp ha) (List.mem_range.mp hb) ne)
theorem drop_wkv (n : Str) : ∀ wd : List (Str × Int), dropK (wkv wd) (Sum.inr n) = wkv (wd.filter fun p => decide (p.1 ≠ n))
  | [] => rfl
  | (m, v) :: r => by
    have ih := drop_wkv n r
    unfold dropK at *
    by_cases c : m = n
    · subst c
      have e1 : wkv ((m, v) :: r) = (Sum.inr m, V.int v) :: wkv r := rfl
      rw [e1, List.filter_cons_of_neg (by simp), List.filter_cons_of_neg (by simp), ih]
    · have e1 : wkv ((m, v) :: r) = (Sum.inr m, V.int v) :: wkv r := rfl
      rw [e1, List.filter_cons_of_pos (by simp [c]), List.filter_cons_of_pos (by simp [c]), ih]
      rfl
def DPC (a : Addr) (Q : VK) (y : V) (H2 : Hp) : Prop := ∃ kvs k v, H2 a = some (.dK kvs) ∧ y = kV k ∧ valV kvs k = some v ∧ Q v (upd H2 a (.dK (dropK kvs k)))
def DPB (ty : TE) (σ : L2.St) (Q : VK) (x : V) (H1 : Hp) : Prop := ∃ a, x = .ref a ∧ IsD H1 a ∧ ty σ H1 fun y H2 => DPC a Q y H2
theorem w_dpop {td ty : TE} {σ : L2.St} {H : Hp} {Q : VK} (h : td σ H fun x H1 => DPB ty σ Q x H1) : tDPop1 td ty σ H Q := h
theorem w_DPB {ty : TE} {σ : L2.St} {Q : VK} {a : Addr} {kvs : List (Key × V)} {H1 : Hp} (e : H1 a = some (.dK kvs)) (h : ty σ H1 fun y H2 => DPC a Q y H2) : DPB ty σ Q (.ref a) H1 := ⟨a, rfl, .inl ⟨kvs, .inl e⟩, h⟩
theorem w_DPC {Q : VK} {a : Addr} {wd : List (Str × Int)} {n : Str} {v : Int} {H2 : Hp} (e : H2 a = some (.dK (wkv wd))) (l : lookW wd n = some v) (q : Q (.int v) (upd H2 a (.dK (wkv (wd.filter fun p => decide (p.1 ≠ n)))))) : DPC a Q (.str n) H2 :=
  ⟨wkv wd, Sum.inr n, .int v, e, rfl, by rw [valV_wkv, l]; rfl, by rw [drop_wkv]; exact q⟩
theorem ib_sum {B : Nat} {ns : List Int} (h : ∀ z ∈ ns, Builtin.Int.intBits z ≤ B) (hl : ns.length ≤ 63) : Builtin.Int.intBits ns.sum ≤ B + 6 := by
  have key : ∀ ns : List Int, (∀ z ∈ ns, Builtin.Int.intBits z ≤ B) → ns.sum.natAbs + ns.length ≤ ns.length * 2 ^ B := by
    intro ns
    induction ns with
    | nil => intro _; exact Nat.zero_le _
    | cons x r ih =>
      intro h
      have h1 := (ib_abs x B).mp (h x (List.mem_cons_self ..))
      have h2 := ih fun z hz => h z (List.mem_cons_of_mem _ hz)
      rw [List.sum_cons, List.length_cons, Nat.add_mul, Nat.one_mul]
      have := Int.natAbs_add_le x r.sum
      omega
  have k := key ns h
  refine (ib_abs _ _).mpr ?_
  rw [Nat.pow_add]
  have p : 0 < 2 ^ B := Nat.pow_pos (by decide)
  have q : ns.length * 2 ^ B ≤ 63 * 2 ^ B := Nat.mul_le_mul_right _ hl
  have e : (2 : Nat) ^ 6 = 64 := by decide
  rw [e]
  generalize 2 ^ B = X at *
  omega
def sp_law (K : PySem.W.Frag) : Sp := fun vs H Q _ => ∃ (a : Addr) (ns : List Int), vs = [.ref a] ∧ SqL K H a (ns.map V.int) ∧ ns.length ≤ 63 ∧ (∀ z ∈ ns, Builtin.Int.intBits z ≤ 1048576) ∧ ∀ H', Q (.bl true) H'
theorem ok_law (T : Top K mg) : FnOk P w K mg base CX0 173 T.a_law T.d_law ["_law_script"] (sp_law K) := by
  refine T.f_law.ok sc_law (fun vs H Q E h => ?_) (fun cdv A outer s H vs Q E hr h => ?_)
  · obtain ⟨a, ns, rfl, _⟩ := h
    rfl
  obtain ⟨a, ns, rfl, h⟩ := h
  refine ⟨_, (pss_cons (ps_set (i := 1) sc_law.nd rfl (.inl rfl) (pe_callB (c_sumK K) (by rfl) T.z_sum (by decide +kernel) (pa_cons (pe_slice sl_list (pv 0) po_none (po_some pe_int)) pa_nil)))
      (pss_cons (ps_set (i := 2) sc_law.nd rfl (.inl rfl) (pe_call (ok_law_names T) (hr.mono (by decide)) (by rfl) T.g_law_names T.f_law_names.kp T.b_law_names .nil pass0 (pa_cons (pv 1) pa_nil)))
      (pss_cons (ps_set (i := 3) sc_law.nd rfl (.inl rfl) (pe_ix (ix_listK K) (pe_lst (pa_cons pe_int (pa_cons pe_int (pa_cons pe_int (pa_cons pe_int (pa_cons pe_int (pa_cons pe_int (pa_cons pe_int (pa_cons pe_int pa_nil))))))))) (pe_op op_mod (pv 1) pe_int) (fun _ _ => rfl)))
      (Evl.pss_cut (ps_if (pt_cmpR op_eq (pe_op op_mod (pe_op op_fdiv (pv 1) pe_int) pe_int) pe_int (nomark _)) (pss_one (ps_set (i := 3) sc_law.nd rfl (.inl rfl) (pe_un un_neg (pv 3)))) pss_nil)
      (pss_cons (ps_set (i := 4) sc_law.nd rfl (.inl rfl) (pe_call (ok_law_drawn T) (hr.mono (by decide)) (by rfl) T.g_law_drawn T.f_law_drawn.kp T.b_law_drawn .nil pass0 (pa_cons (pv 2) (pa_cons (pv 1) (pa_cons (pv 3) pa_nil)))))
      (pss_cons (ps_set (i := 5) sc_law.nd rfl (.inl rfl) (pe_disp (pps_cons (pe_ix (ix_listK K) (pv 2) pe_int (fun _ _ => rfl)) (pv 3) (pps_cons (pe_ix (ix_listK K) (pv 2) pe_int (fun _ _ => rfl)) (pe_op op_add pe_int (pe_op op_mod (pv 1) pe_int)) (pps_cons (pe_ix (ix_listK K) (pv 2) pe_int (fun _ _ => rfl)) (pe_un un_neg pe_int) (pps_cons (pe_ix (ix_listK K) (pv 2) pe_int (fun _ _ => rfl)) pe_int pps_nil)))) (by rfl) (by rfl) (fun z => by cases z) (by decide)))
      (pss_cons (ps_if (pt_cmpR op_gt (pe_op op_mod (pe_op op_fdiv (pv 1) pe_int) pe_int) pe_int (nomark _)) (pss_one (ps_ret (pe_call (ok_law_held T) (hr.mono (by decide)) (by rfl) T.g_law_held T.f_law_held.kp T.b_law_held .nil pass0 (pa_cons (pv 4) (pa_cons (pv 5) (pa_cons (pv 1) pa_nil)))))) pss_nil)
      (pss_cons (ps_set (i := 6) sc_law.nd rfl (.inl rfl) (pe_bm0 PySem.F.plainAttrs_dict PySem.F.slot_dict_copy PySem.F.type_dict_copy mt_copyD (pv 5)))
      (pss_cons (ps_expr (pe_dpop1 (pv 6) (pe_ix (ix_listK K) (pv 2) (pe_op op_mod (pe_op op_fdiv (pv 1) pe_int) pe_int) (fun _ _ => rfl)) ⟨rfl, rfl, rfl, rfl⟩))
      (pss_cons (ps_if (pt_not (pt_val (pe_call (ok_law_held T) (hr.mono (by decide)) (by rfl) T.g_law_held T.f_law_held.kp T.b_law_held .nil pass0 (pa_cons (pv 4) (pa_cons (pv 6) (pa_cons (pv 1) pa_nil)))))) (pss_one (ps_ret pe_bl)) pss_nil)
      (pss_one (ps_ret (pe_and (pe_call (ok_law_held T) (hr.mono (by decide)) (by rfl) T.g_law_held T.f_law_held.kp T.b_law_held .nil pass0 (pa_cons (pv 4) (pa_cons (pv 5) (pa_cons (pv 1) pa_nil)))) (pe_one (pe_call (ok_law_held T) (hr.mono (by decide)) (by rfl) T.g_law_held T.f_law_held.kp T.b_law_held .nil pass0 (pa_cons (pv 4) (pa_cons (pv 6) (pa_cons (pv 1) pa_nil)))))))))))))))))), ?_⟩
  try dsimp only [cxOf, Cx.nox, Cx.wish]
  simp only [L2.start, List.map_cons, List.map_nil, List.length_cons, List.length_nil, Nat.reduceAdd, Nat.reduceSub, List.replicate_succ, List.replicate_zero, List.cons_append, List.nil_append]
  obtain ⟨hS, hlen, hb, h⟩ := h
  have hlm : (ns.map V.int).length = ns.length := List.length_map ..
  walk_at "ws"
  rename_i pc H1 n1 s1 e1
  have e0 : cutV (ns.map V.int) none (some 63) = (ns.take 63).map V.int := by
    rw [show (63 : Int) = ((63 : Nat) : Int) from rfl, cut_upto, ← List.map_take]
  rw [e0] at e1
  have hml : (ns.take 63).length ≤ 63 := by rw [List.length_take]; omega
  have hmb : ∀ z ∈ ns.take 63, Builtin.Int.intBits z ≤ 1048576 := fun z hz => hb z (List.mem_of_mem_take hz)
  have hfb := ib_sum hmb hml
  generalize ns.take 63 = ms at *
  refine w_sumL (SqL.of e1) ?_
  generalize ms.sum = f at *
  have hfb6 : Builtin.Int.intBits f ≤ 1048600 := Nat.le_trans hfb (by decide)
  walk_at "ws"
  refine ⟨f, rfl, hfb6, fun pn G2 n2 s2 e2 => ?_⟩
  walk_at "ws"
  rename_i pz G3 n3 s3 e3
  obtain ⟨t, ht, ht1, ht2⟩ := eight_at (i := f % 8) (by omega)
  refine w_ixL (SqL.of e3) ht ?_
  walk_at "ws"
  refine w_cut (fun σ' G => ∃ sz : Int, σ' = [some (.ref a), some (.int f), some (.ref pn), some (.int sz), none, none, none] ∧ G = G3 ∧ 1 ≤ sz.natAbs ∧ sz.natAbs ≤ 24) ?_ fun σ' G k => ?_
  · walk_at "ws"
    · exact ⟨_, rfl, rfl, by omega, by omega⟩
    · exact ⟨_, rfl, rfl, by omega, by omega⟩
  obtain ⟨sz, rfl, rfl, hz1, hz2⟩ := k
  have e23 := s3 _ _ e2
  walk_at "ws"
  refine ⟨pn, f, sz, namesL f, rfl, SqL.of e23, namesL_len f, hz1, hz2, hfb, fun fm pf G4 hfo hsz hlv s4 hf => ?_⟩
  have hcost := cost_lv 2304 7345 fm
  have e24 := s4 _ _ e23
  have hnd := namesL_nodup f
  obtain ⟨a0, a1, a2, a3, a4, hnm⟩ := five_of (namesL_len f)
  rw [hnm] at e24 hnd
  have hx0 : atI ([a0, a1, a2, a3, a4].map V.str) 0 = some (.str a0) := atI_nat (j := 0) rfl
  have hx1 : atI ([a0, a1, a2, a3, a4].map V.str) 1 = some (.str a1) := atI_nat (j := 1) rfl
  have hx2 : atI ([a0, a1, a2, a3, a4].map V.str) 2 = some (.str a2) := atI_nat (j := 2) rfl
  have hx3 : atI ([a0, a1, a2, a3, a4].map V.str) 3 = some (.str a3) := atI_nat (j := 3) rfl
  walk_at "ws"
  rename_i pd G5 n5 s5 e5
  have nd : (([(a0, sz), (a1, 1 + f % 5), (a2, -2), (a3, 7)] : List (Str × Int)).map (·.1)).Nodup := hnd.sublist (List.take_sublist 4 [a0, a1, a2, a3, a4])
  have wok : WdOk [(a0, sz), (a1, 1 + f % 5), (a2, -2), (a3, 7)] := fun n v hv => by
    have := look_mem hv
    simp only [List.mem_cons, List.not_mem_nil, or_false, Prod.mk.injEq] at this
    rcases this with ⟨_, rfl⟩ | ⟨_, rfl⟩ | ⟨_, rfl⟩ | ⟨_, rfl⟩ <;> omega
  have lk : ∃ x v, atI ([a0, a1, a2, a3, a4].map V.str) (f / 960 % 2) = some (.str x) ∧ lookW [(a0, sz), (a1, 1 + f % 5), (a2, -2), (a3, 7)] x = some v := by
    have : f / 960 % 2 = 0 ∨ f / 960 % 2 = 1 := by omega
    rcases this with z | z <;> rw [z]
    · exact ⟨a0, sz, hx0, lookW_hit⟩
    · refine ⟨a1, 1 + f % 5, hx1, look_nd nd (List.mem_cons_of_mem _ (List.mem_cons_self ..))⟩
  have hwl : ([(a0, sz), (a1, 1 + f % 5), (a2, -2), (a3, 7)] : List (Str × Int)).length ≤ 15 := Nat.le_of_ble_eq_true rfl
  refine w_DspE [(a0, sz), (a1, 1 + f % 5), (a2, -2), (a3, 7)] nd e5 rfl (Nat.le_of_ble_eq_true rfl) fun G6 e6 fr6 => ?_
  have s6 := fr6 G4 s5 n5
  generalize [(a0, sz), (a1, 1 + f % 5), (a2, -2), (a3, 7)] = wd at *
  obtain ⟨x, v, hx, hxv⟩ := lk
  have e26 := s6 _ _ e24
  have hf6 := hf.same s6
  walk_at "ws"
  · refine ⟨pf, pd, f, fm, wd, _, rfl, hf6, e6, hfo, wok, by omega, by omega, nd, by omega, hfb, fun G7 s7 => ?_⟩
    walk_at "ws"
    exact h _
  · rename_i pl G7 n7 s7 e7
    refine w_dpop ?_
    walk_at "ws"
    refine w_DPB e7 ?_
    walk_at "ws"
    refine w_ixL (SqL.of (s7 _ _ e26)) hx ?_
    refine w_DPC e7 hxv ?_
    have s8 := same_mut (u := HO.dK (wkv (wd.filter fun p => decide (p.1 ≠ x)))) s7 n7
    have nd8 : ((wd.filter fun p => decide (p.1 ≠ x)).map (·.1)).Nodup := nd.sublist (List.filter_sublist.map _)
    have wok8 : WdOk (wd.filter fun p => decide (p.1 ≠ x)) := fun n v hv => wok n v (look_nd nd ((List.mem_filter.mp (look_mem hv)).1))
    have hl8 : (wd.filter fun p => decide (p.1 ≠ x)).length ≤ wd.length := List.length_filter_le ..
    have e8 : upd G7 pl (HO.dK (wkv (wd.filter fun p => decide (p.1 ≠ x)))) pl = some (HO.dK (wkv (wd.filter fun p => decide (p.1 ≠ x)))) := upd_same
    generalize upd G7 pl (HO.dK (wkv (wd.filter fun p => decide (p.1 ≠ x)))) = G8 at *
    generalize (wd.filter fun p => decide (p.1 ≠ x)) = wl at *
    have e86 := s8 _ _ e6
    walk_at "ws"
    refine ⟨pf, pl, f, fm, wl, _, rfl, hf6.same s8, e8, hfo, wok8, by omega, by omega, nd8, by omega, hfb, fun G9 s9 => ?_⟩
    walk_at "ws"
    refine ⟨pf, pd, f, fm, wd, _, rfl, (hf6.same s8).same s9, s9 _ _ e86, hfo, wok, by omega, by omega, nd, by omega, hfb, fun Ga sa => ?_⟩
    walk_at "ws"
    refine ⟨pf, pl, f, fm, wl, _, rfl, ((hf6.same s8).same s9).same sa, sa _ _ (s9 _ _ e8), hfo, wok8, by omega, by omega, nd8, by omega, hfb, fun Gb sb => ?_⟩
    walk_at "ws"
    exact h _

end
theorem end_sp_law {K : PySem.W.Frag} {H : Hp} {a : Addr} {ns : List Int} (hl : ns.length ≤ 63) (hb : ∀ z ∈ ns, Builtin.Int.intBits z ≤ 1048576) (_ : Only H) (hS : SqL K H a (ns.map V.int)) : sp_law K [.ref a] H (fun v _ => v = .bl true) fun _ _ _ => False :=
  ⟨a, ns, rfl, hS, hl, hb, fun _ => rfl⟩
theorem all_mk {l : PySem.W.OpenLaw} {w : World} {K : PySem.W.Frag} {h : Heap} {mg : Str → Option Value} {fa ha0 ha1 ha2 ha3 ha4 ha5 ha6 ha7 ha8 ha9 ha10 ha11 ha12 ha13 ha14 ha15 ha16 ha17 ha18 ha19 ha20 ha21 ha22 ha23 ha24 ha25 ha26 ha27 ha28 ha29 ha30 ha31 ha32 ha33 ha34 ha35 ha36 ha37 ha38 ha39 ha40 ha41 ha42 ha43 ha44 ha45 ha46 ha47 ha48 ha49 c_PressError c_TooFew c_TooMany c_TooWide c_NoFormula c_NoName c_NoLine c_NoCircuit c_OutOfWidth c_Splits c_Heap c_Sheet c_Circuit c_Plan : Addr} (X : K.In h) (G : h.Ns mainGlobals mg) (hfa : mg "law" = some (.ref fa))
    {hT30 nT30 : Nat} {ocT30 : Value} {odT30 : Option Addr} {slT30 : Array (Option Value)} {tk_ROOM : Tok} {od0 an0 od1 an1 od2 an2 od3 an3 od4 an4 od5 an5 od6 an6 od7 an7 od8 an8 od9 an9 od10 an10 od11 an11 od12 an12 od13 an13 od14 an14 od15 an15 od16 an16 od17 an17 od18 an18 od19 an19 od20 an20 od21 an21 od22 an22 od23 an23 od24 an24 od25 an25 od26 an26 od27 an27 od28 an28 od29 an29 od30 an30 od31 an31 od32 an32 od33 an33 od34 an34 od35 an35 od36 an36 od37 an37 od38 an38 od39 an39 od40 an40 od41 an41 od42 an42 od43 an43 od44 an44 od45 an45 od46 an46 od47 an47 od48 an48 od49 an49 : Option Addr} {shl0 shl1 shl2 shl3 shl4 shl5 shl6 shl7 shl8 shl9 shl10 shl11 shl12 shl13 shl14 shl15 shl16 shl17 shl18 shl19 shl20 shl21 shl22 shl23 shl24 shl25 shl26 shl27 shl28 shl29 shl30 shl31 shl32 shl33 shl34 shl35 shl36 shl37 shl38 shl39 shl40 shl41 shl42 shl43 shl44 shl45 shl46 shl47 shl48 shl49 : Array (Option Value)} {oc0 kV0 dc0 pm0 cd0 ct0 oc1 kV1 dc1 pm1 cd1 ct1 oc2 kV2 dc2 pm2 cd2 ct2 oc3 kV3 dc3 pm3 cd3 ct3 oc4 kV4 dc4 pm4 cd4 ct4 oc5 kV5 dc5 pm5 cd5 ct5 oc6 kV6 dc6 pm6 cd6 ct6 oc7 kV7 dc7 pm7 cd7 ct7 oc8 kV8 dc8 pm8 cd8 ct8 oc9 kV9 dc9 pm9 cd9 ct9 oc10 kV10 dc10 pm10 cd10 ct10 oc11 kV11 dc11 pm11 cd11 ct11 oc12 kV12 dc12 pm12 cd12 ct12 oc13 kV13 dc13 pm13 cd13 ct13 oc14 kV14 dc14 pm14 cd14 ct14 oc15 kV15 dc15 pm15 cd15 ct15 oc16 kV16 dc16 pm16 cd16 ct16 oc17 kV17 dc17 pm17 cd17 ct17 oc18 kV18 dc18 pm18 cd18 ct18 oc19 kV19 dc19 pm19 cd19 ct19 oc20 kV20 dc20 pm20 cd20 ct20 oc21 kV21 dc21 pm21 cd21 ct21 oc22 kV22 dc22 pm22 cd22 ct22 oc23 kV23 dc23 pm23 cd23 ct23 oc24 kV24 dc24 pm24 cd24 ct24 oc25 kV25 dc25 pm25 cd25 ct25 oc26 kV26 dc26 pm26 cd26 ct26 oc27 kV27 dc27 pm27 cd27 ct27 oc28 kV28 dc28 pm28 cd28 ct28 oc29 kV29 dc29 pm29 cd29 ct29 oc30 kV30 dc30 pm30 cd30 ct30 oc31 kV31 dc31 pm31 cd31 ct31 oc32 kV32 dc32 pm32 cd32 ct32 oc33 kV33 dc33 pm33 cd33 ct33 oc34 kV34 dc34 pm34 cd34 ct34 oc35 kV35 dc35 pm35 cd35 ct35 oc36 kV36 dc36 pm36 cd36 ct36 oc37 kV37 dc37 pm37 cd37 ct37 oc38 kV38 dc38 pm38 cd38 ct38 oc39 kV39 dc39 pm39 cd39 ct39 oc40 kV40 dc40 pm40 cd40 ct40 oc41 kV41 dc41 pm41 cd41 ct41 oc42 kV42 dc42 pm42 cd42 ct42 oc43 kV43 dc43 pm43 cd43 ct43 oc44 kV44 dc44 pm44 cd44 ct44 oc45 kV45 dc45 pm45 cd45 ct45 oc46 kV46 dc46 pm46 cd46 ct46 oc47 kV47 dc47 pm47 cd47 ct47 oc48 kV48 dc48 pm48 cd48 ct48 oc49 kV49 dc49 pm49 cd49 ct49 : Value}
    (hg0 : PySem.W.findIn K (.ref c_Splits) "__init__" = some (some (.ref ha0)))
    (hi0 : PySem.W.isFn K (.ref ha0) = true)
    (hl0 : K.lookup ha0 = some ⟨oc0, od0, .func (PySem.W.fnOf "__init__" "Splits.__init__" (defArgs s_Splits__init) (defBody s_Splits__init) (defScope s_Splits__init) .none kV0 dc0 pm0 an0 cd0 ct0), shl0⟩)
    (hk0 : PySem.W.codeIn K cd0 "Splits.__init__" = true)
    (hp0 : PySem.W.keepIn K (.ref ha0) = true)
    (hg1 : PySem.W.findIn K (.ref c_Splits) "part" = some (some (.ref ha1)))
    (hi1 : PySem.W.isFn K (.ref ha1) = true)
    (hl1 : K.lookup ha1 = some ⟨oc1, od1, .func (PySem.W.fnOf "part" "Splits.part" (defArgs s_Splits_part) (defBody s_Splits_part) (defScope s_Splits_part) .none kV1 dc1 pm1 an1 cd1 ct1), shl1⟩)
    (hk1 : PySem.W.codeIn K cd1 "Splits.part" = true)
    (hp1 : PySem.W.keepIn K (.ref ha1) = true)
    (hg2 : PySem.W.nsIn K mainGlobals "joined" = some (some (.ref ha2)))
    (hl2 : K.lookup ha2 = some ⟨oc2, od2, .func (PySem.W.fnOf "joined" "joined" (defArgs s_joined) (defBody s_joined) (defScope s_joined) .none kV2 dc2 pm2 an2 cd2 ct2), shl2⟩)
    (hk2 : PySem.W.codeIn K cd2 "joined" = true)
    (hp2 : PySem.W.keepIn K (.ref ha2) = true)
    (hg3 : PySem.W.nsIn K mainGlobals "stretch" = some (some (.ref ha3)))
    (hl3 : K.lookup ha3 = some ⟨oc3, od3, .func (PySem.W.fnOf "stretch" "stretch" (defArgs s_stretch) (defBody s_stretch) (defScope s_stretch) .none kV3 dc3 pm3 an3 cd3 ct3), shl3⟩)
    (hk3 : PySem.W.codeIn K cd3 "stretch" = true)
    (hp3 : PySem.W.keepIn K (.ref ha3) = true)
    (hg4 : PySem.W.nsIn K mainGlobals "prefixes" = some (some (.ref ha4)))
    (hl4 : K.lookup ha4 = some ⟨oc4, od4, .func (PySem.W.fnOf "prefixes" "prefixes" (defArgs s_prefixes) (defBody s_prefixes) (defScope s_prefixes) .none kV4 dc4 pm4 an4 cd4 ct4), shl4⟩)
    (hk4 : PySem.W.codeIn K cd4 "prefixes" = true)
    (hp4 : PySem.W.keepIn K (.ref ha4) = true)
    (hg5 : PySem.W.nsIn K mainGlobals "summed" = some (some (.ref ha5)))
    (hl5 : K.lookup ha5 = some ⟨oc5, od5, .func (PySem.W.fnOf "summed" "summed" (defArgs s_summed) (defBody s_summed) (defScope s_summed) .none kV5 dc5 pm5 an5 cd5 ct5), shl5⟩)
    (hk5 : PySem.W.codeIn K cd5 "summed" = true)
    (hp5 : PySem.W.keepIn K (.ref ha5) = true)
    (hg6 : PySem.W.nsIn K mainGlobals "span_of_width" = some (some (.ref ha6)))
    (hl6 : K.lookup ha6 = some ⟨oc6, od6, .func (PySem.W.fnOf "span_of_width" "span_of_width" (defArgs s_span_of_width) (defBody s_span_of_width) (defScope s_span_of_width) .none kV6 dc6 pm6 an6 cd6 ct6), shl6⟩)
    (hk6 : PySem.W.codeIn K cd6 "span_of_width" = true)
    (hp6 : PySem.W.keepIn K (.ref ha6) = true)
    (hg7 : PySem.W.nsIn K mainGlobals "room_of" = some (some (.ref ha7)))
    (hl7 : K.lookup ha7 = some ⟨oc7, od7, .func (PySem.W.fnOf "room_of" "room_of" (defArgs s_room_of) (defBody s_room_of) (defScope s_room_of) .none kV7 dc7 pm7 an7 cd7 ct7), shl7⟩)
    (hk7 : PySem.W.codeIn K cd7 "room_of" = true)
    (hp7 : PySem.W.keepIn K (.ref ha7) = true)
    (hg8 : PySem.W.nsIn K mainGlobals "span_of" = some (some (.ref ha8)))
    (hl8 : K.lookup ha8 = some ⟨oc8, od8, .func (PySem.W.fnOf "span_of" "span_of" (defArgs s_span_of) (defBody s_span_of) (defScope s_span_of) .none kV8 dc8 pm8 an8 cd8 ct8), shl8⟩)
    (hk8 : PySem.W.codeIn K cd8 "span_of" = true)
    (hp8 : PySem.W.keepIn K (.ref ha8) = true)
    (hg9 : PySem.W.nsIn K mainGlobals "parts_of" = some (some (.ref ha9)))
    (hl9 : K.lookup ha9 = some ⟨oc9, od9, .func (PySem.W.fnOf "parts_of" "parts_of" (defArgs s_parts_of) (defBody s_parts_of) (defScope s_parts_of) .none kV9 dc9 pm9 an9 cd9 ct9), shl9⟩)
    (hk9 : PySem.W.codeIn K cd9 "parts_of" = true)
    (hp9 : PySem.W.keepIn K (.ref ha9) = true)
    (hg10 : PySem.W.findIn K (.ref c_Heap) "__init__" = some (some (.ref ha10)))
    (hi10 : PySem.W.isFn K (.ref ha10) = true)
    (hl10 : K.lookup ha10 = some ⟨oc10, od10, .func (PySem.W.fnOf "__init__" "Heap.__init__" (defArgs s_Heap__init) (defBody s_Heap__init) (defScope s_Heap__init) .none kV10 dc10 pm10 an10 cd10 ct10), shl10⟩)
    (hk10 : PySem.W.codeIn K cd10 "Heap.__init__" = true)
    (hp10 : PySem.W.keepIn K (.ref ha10) = true)
    (hg11 : PySem.W.findIn K (.ref c_Heap) "put" = some (some (.ref ha11)))
    (hi11 : PySem.W.isFn K (.ref ha11) = true)
    (hl11 : K.lookup ha11 = some ⟨oc11, od11, .func (PySem.W.fnOf "put" "Heap.put" (defArgs s_Heap_put) (defBody s_Heap_put) (defScope s_Heap_put) .none kV11 dc11 pm11 an11 cd11 ct11), shl11⟩)
    (hk11 : PySem.W.codeIn K cd11 "Heap.put" = true)
    (hp11 : PySem.W.keepIn K (.ref ha11) = true)
    (hg12 : PySem.W.findIn K (.ref c_Heap) "heights" = some (some (.ref ha12)))
    (hi12 : PySem.W.isFn K (.ref ha12) = true)
    (hl12 : K.lookup ha12 = some ⟨oc12, od12, .func (PySem.W.fnOf "heights" "Heap.heights" (defArgs s_Heap_heights) (defBody s_Heap_heights) (defScope s_Heap_heights) .none kV12 dc12 pm12 an12 cd12 ct12), shl12⟩)
    (hk12 : PySem.W.codeIn K cd12 "Heap.heights" = true)
    (hp12 : PySem.W.keepIn K (.ref ha12) = true)
    (hg13 : PySem.W.findIn K (.ref c_Heap) "column" = some (some (.ref ha13)))
    (hi13 : PySem.W.isFn K (.ref ha13) = true)
    (hl13 : K.lookup ha13 = some ⟨oc13, od13, .func (PySem.W.fnOf "column" "Heap.column" (defArgs s_Heap_column) (defBody s_Heap_column) (defScope s_Heap_column) .none kV13 dc13 pm13 an13 cd13 ct13), shl13⟩)
    (hk13 : PySem.W.codeIn K cd13 "Heap.column" = true)
    (hp13 : PySem.W.keepIn K (.ref ha13) = true)
    (hg14 : PySem.W.findIn K (.ref c_Heap) "press" = some (some (.ref ha14)))
    (hi14 : PySem.W.isFn K (.ref ha14) = true)
    (hl14 : K.lookup ha14 = some ⟨oc14, od14, .func (PySem.W.fnOf "press" "Heap.press" (defArgs s_Heap_press) (defBody s_Heap_press) (defScope s_Heap_press) .none kV14 dc14 pm14 an14 cd14 ct14), shl14⟩)
    (hk14 : PySem.W.codeIn K cd14 "Heap.press" = true)
    (hp14 : PySem.W.keepIn K (.ref ha14) = true)
    (hg15 : PySem.W.nsIn K mainGlobals "high_columns" = some (some (.ref ha15)))
    (hl15 : K.lookup ha15 = some ⟨oc15, od15, .func (PySem.W.fnOf "high_columns" "high_columns" (defArgs s_high_columns) (defBody s_high_columns) (defScope s_high_columns) .none kV15 dc15 pm15 an15 cd15 ct15), shl15⟩)
    (hk15 : PySem.W.codeIn K cd15 "high_columns" = true)
    (hp15 : PySem.W.keepIn K (.ref ha15) = true)
    (hg16 : PySem.W.nsIn K mainGlobals "press_by_order" = some (some (.ref ha16)))
    (hl16 : K.lookup ha16 = some ⟨oc16, od16, .func (PySem.W.fnOf "press_by_order" "press_by_order" (defArgs s_press_by_order) (defBody s_press_by_order) (defScope s_press_by_order) .none kV16 dc16 pm16 an16 cd16 ct16), shl16⟩)
    (hk16 : PySem.W.codeIn K cd16 "press_by_order" = true)
    (hp16 : PySem.W.keepIn K (.ref ha16) = true)
    (hg17 : PySem.W.nsIn K mainGlobals "press_by_rounds" = some (some (.ref ha17)))
    (hl17 : K.lookup ha17 = some ⟨oc17, od17, .func (PySem.W.fnOf "press_by_rounds" "press_by_rounds" (defArgs s_press_by_rounds) (defBody s_press_by_rounds) (defScope s_press_by_rounds) .none kV17 dc17 pm17 an17 cd17 ct17), shl17⟩)
    (hk17 : PySem.W.codeIn K cd17 "press_by_rounds" = true)
    (hp17 : PySem.W.keepIn K (.ref ha17) = true)
    (hg18 : PySem.W.findIn K (.ref c_Sheet) "__init__" = some (some (.ref ha18)))
    (hi18 : PySem.W.isFn K (.ref ha18) = true)
    (hl18 : K.lookup ha18 = some ⟨oc18, od18, .func (PySem.W.fnOf "__init__" "Sheet.__init__" (defArgs s_Sheet__init) (defBody s_Sheet__init) (defScope s_Sheet__init) .none kV18 dc18 pm18 an18 cd18 ct18), shl18⟩)
    (hk18 : PySem.W.codeIn K cd18 "Sheet.__init__" = true)
    (hp18 : PySem.W.keepIn K (.ref ha18) = true)
    (hg19 : PySem.W.findIn K (.ref c_Sheet) "add" = some (some (.ref ha19)))
    (hi19 : PySem.W.isFn K (.ref ha19) = true)
    (hl19 : K.lookup ha19 = some ⟨oc19, od19, .func (PySem.W.fnOf "add" "Sheet.add" (defArgs s_Sheet_add) (defBody s_Sheet_add) (defScope s_Sheet_add) .none kV19 dc19 pm19 an19 cd19 ct19), shl19⟩)
    (hk19 : PySem.W.codeIn K cd19 "Sheet.add" = true)
    (hp19 : PySem.W.keepIn K (.ref ha19) = true)
    (hg20 : PySem.W.findIn K (.ref c_Sheet) "rows_now" = some (some (.ref ha20)))
    (hi20 : PySem.W.isFn K (.ref ha20) = true)
    (hl20 : K.lookup ha20 = some ⟨oc20, od20, .func (PySem.W.fnOf "rows_now" "Sheet.rows_now" (defArgs s_Sheet_rows_now) (defBody s_Sheet_rows_now) (defScope s_Sheet_rows_now) .none kV20 dc20 pm20 an20 cd20 ct20), shl20⟩)
    (hk20 : PySem.W.codeIn K cd20 "Sheet.rows_now" = true)
    (hp20 : PySem.W.keepIn K (.ref ha20) = true)
    (hg21 : PySem.W.findIn K (.ref c_Circuit) "__init__" = some (some (.ref ha21)))
    (hi21 : PySem.W.isFn K (.ref ha21) = true)
    (hl21 : K.lookup ha21 = some ⟨oc21, od21, .func (PySem.W.fnOf "__init__" "Circuit.__init__" (defArgs s_Circuit__init) (defBody s_Circuit__init) (defScope s_Circuit__init) .none kV21 dc21 pm21 an21 cd21 ct21), shl21⟩)
    (hk21 : PySem.W.codeIn K cd21 "Circuit.__init__" = true)
    (hp21 : PySem.W.keepIn K (.ref ha21) = true)
    (hg22 : PySem.W.findIn K (.ref c_Plan) "__init__" = some (some (.ref ha22)))
    (hi22 : PySem.W.isFn K (.ref ha22) = true)
    (hl22 : K.lookup ha22 = some ⟨oc22, od22, .func (PySem.W.fnOf "__init__" "Plan.__init__" (defArgs s_Plan__init) (defBody s_Plan__init) (defScope s_Plan__init) .none kV22 dc22 pm22 an22 cd22 ct22), shl22⟩)
    (hk22 : PySem.W.codeIn K cd22 "Plan.__init__" = true)
    (hp22 : PySem.W.keepIn K (.ref ha22) = true)
    (hg23 : PySem.W.findIn K (.ref c_Plan) "finished" = some (some (.ref ha23)))
    (hi23 : PySem.W.isFn K (.ref ha23) = true)
    (hl23 : K.lookup ha23 = some ⟨oc23, od23, .func (PySem.W.fnOf "finished" "Plan.finished" (defArgs s_Plan_finished) (defBody s_Plan_finished) (defScope s_Plan_finished) .none kV23 dc23 pm23 an23 cd23 ct23), shl23⟩)
    (hk23 : PySem.W.codeIn K cd23 "Plan.finished" = true)
    (hp23 : PySem.W.keepIn K (.ref ha23) = true)
    (hg24 : PySem.W.nsIn K mainGlobals "apart" = some (some (.ref ha24)))
    (hl24 : K.lookup ha24 = some ⟨oc24, od24, .func (PySem.W.fnOf "apart" "apart" (defArgs s_apart) (defBody s_apart) (defScope s_apart) .none kV24 dc24 pm24 an24 cd24 ct24), shl24⟩)
    (hk24 : PySem.W.codeIn K cd24 "apart" = true)
    (hp24 : PySem.W.keepIn K (.ref ha24) = true)
    (hg25 : PySem.W.nsIn K mainGlobals "name_dots" = some (some (.ref ha25)))
    (hl25 : K.lookup ha25 = some ⟨oc25, od25, .func (PySem.W.fnOf "name_dots" "name_dots" (defArgs s_name_dots) (defBody s_name_dots) (defScope s_name_dots) .none kV25 dc25 pm25 an25 cd25 ct25), shl25⟩)
    (hk25 : PySem.W.codeIn K cd25 "name_dots" = true)
    (hp25 : PySem.W.keepIn K (.ref ha25) = true)
    (hg26 : PySem.W.nsIn K mainGlobals "word_dots" = some (some (.ref ha26)))
    (hl26 : K.lookup ha26 = some ⟨oc26, od26, .func (PySem.W.fnOf "word_dots" "word_dots" (defArgs s_word_dots) (defBody s_word_dots) (defScope s_word_dots) .none kV26 dc26 pm26 an26 cd26 ct26), shl26⟩)
    (hk26 : PySem.W.codeIn K cd26 "word_dots" = true)
    (hp26 : PySem.W.keepIn K (.ref ha26) = true)
    (hg27 : PySem.W.nsIn K mainGlobals "part_dots" = some (some (.ref ha27)))
    (hl27 : K.lookup ha27 = some ⟨oc27, od27, .func (PySem.W.fnOf "part_dots" "part_dots" (defArgs s_part_dots) (defBody s_part_dots) (defScope s_part_dots) .none kV27 dc27 pm27 an27 cd27 ct27), shl27⟩)
    (hk27 : PySem.W.codeIn K cd27 "part_dots" = true)
    (hp27 : PySem.W.keepIn K (.ref ha27) = true)
    (hg28 : PySem.W.nsIn K mainGlobals "bits_made" = some (some (.ref ha28)))
    (hl28 : K.lookup ha28 = some ⟨oc28, od28, .func (PySem.W.fnOf "bits_made" "bits_made" (defArgs s_bits_made) (defBody s_bits_made) (defScope s_bits_made) .none kV28 dc28 pm28 an28 cd28 ct28), shl28⟩)
    (hk28 : PySem.W.codeIn K cd28 "bits_made" = true)
    (hp28 : PySem.W.keepIn K (.ref ha28) = true)
    (hg29 : PySem.W.nsIn K mainGlobals "look" = some (some (.ref ha29)))
    (hl29 : K.lookup ha29 = some ⟨oc29, od29, .func (PySem.W.fnOf "look" "look" (defArgs s_look) (defBody s_look) (defScope s_look) .none kV29 dc29 pm29 an29 cd29 ct29), shl29⟩)
    (hk29 : PySem.W.codeIn K cd29 "look" = true)
    (hp29 : PySem.W.keepIn K (.ref ha29) = true)
    (hg30 : PySem.W.nsIn K mainGlobals "circuit_of" = some (some (.ref ha30)))
    (hl30 : K.lookup ha30 = some ⟨oc30, od30, .func (PySem.W.fnOf "circuit_of" "circuit_of" (defArgs s_circuit_of) (defBody s_circuit_of) (defScope s_circuit_of) (.ref hT30) kV30 dc30 pm30 an30 cd30 ct30), shl30⟩)
    (ht30 : K.lookup hT30 = some ⟨ocT30, odT30, .seq #[Value.none, Value.none] nT30, slT30⟩)
    (hk30 : PySem.W.codeIn K cd30 "circuit_of" = true)
    (hp30 : PySem.W.keepIn K (.ref ha30) = true)
    (hg31 : PySem.W.nsIn K mainGlobals "_law_mixed" = some (some (.ref ha31)))
    (hl31 : K.lookup ha31 = some ⟨oc31, od31, .func (PySem.W.fnOf "_law_mixed" "_law_mixed" (defArgs s_law_mixed) (defBody s_law_mixed) (defScope s_law_mixed) .none kV31 dc31 pm31 an31 cd31 ct31), shl31⟩)
    (hk31 : PySem.W.codeIn K cd31 "_law_mixed" = true)
    (hp31 : PySem.W.keepIn K (.ref ha31) = true)
    (hg32 : PySem.W.nsIn K mainGlobals "_law_whole" = some (some (.ref ha32)))
    (hl32 : K.lookup ha32 = some ⟨oc32, od32, .func (PySem.W.fnOf "_law_whole" "_law_whole" (defArgs s_law_whole) (defBody s_law_whole) (defScope s_law_whole) .none kV32 dc32 pm32 an32 cd32 ct32), shl32⟩)
    (hk32 : PySem.W.codeIn K cd32 "_law_whole" = true)
    (hp32 : PySem.W.keepIn K (.ref ha32) = true)
    (hg33 : PySem.W.nsIn K mainGlobals "_law_names" = some (some (.ref ha33)))
    (hl33 : K.lookup ha33 = some ⟨oc33, od33, .func (PySem.W.fnOf "_law_names" "_law_names" (defArgs s_law_names) (defBody s_law_names) (defScope s_law_names) .none kV33 dc33 pm33 an33 cd33 ct33), shl33⟩)
    (hk33 : PySem.W.codeIn K cd33 "_law_names" = true)
    (hp33 : PySem.W.keepIn K (.ref ha33) = true)
    (hg34 : PySem.W.nsIn K mainGlobals "_law_worth" = some (some (.ref ha34)))
    (hl34 : K.lookup ha34 = some ⟨oc34, od34, .func (PySem.W.fnOf "_law_worth" "_law_worth" (defArgs s_law_worth) (defBody s_law_worth) (defScope s_law_worth) .none kV34 dc34 pm34 an34 cd34 ct34), shl34⟩)
    (hk34 : PySem.W.codeIn K cd34 "_law_worth" = true)
    (hp34 : PySem.W.keepIn K (.ref ha34) = true)
    (hg35 : PySem.W.nsIn K mainGlobals "_law_ends" = some (some (.ref ha35)))
    (hl35 : K.lookup ha35 = some ⟨oc35, od35, .func (PySem.W.fnOf "_law_ends" "_law_ends" (defArgs s_law_ends) (defBody s_law_ends) (defScope s_law_ends) .none kV35 dc35 pm35 an35 cd35 ct35), shl35⟩)
    (hk35 : PySem.W.codeIn K cd35 "_law_ends" = true)
    (hp35 : PySem.W.keepIn K (.ref ha35) = true)
    (hg36 : PySem.W.nsIn K mainGlobals "_law_span" = some (some (.ref ha36)))
    (hl36 : K.lookup ha36 = some ⟨oc36, od36, .func (PySem.W.fnOf "_law_span" "_law_span" (defArgs s_law_span) (defBody s_law_span) (defScope s_law_span) .none kV36 dc36 pm36 an36 cd36 ct36), shl36⟩)
    (hk36 : PySem.W.codeIn K cd36 "_law_span" = true)
    (hp36 : PySem.W.keepIn K (.ref ha36) = true)
    (hg37 : PySem.W.nsIn K mainGlobals "_law_room" = some (some (.ref ha37)))
    (hl37 : K.lookup ha37 = some ⟨oc37, od37, .func (PySem.W.fnOf "_law_room" "_law_room" (defArgs s_law_room) (defBody s_law_room) (defScope s_law_room) .none kV37 dc37 pm37 an37 cd37 ct37), shl37⟩)
    (hk37 : PySem.W.codeIn K cd37 "_law_room" = true)
    (hp37 : PySem.W.keepIn K (.ref ha37) = true)
    (hg38 : PySem.W.nsIn K mainGlobals "_law_wide" = some (some (.ref ha38)))
    (hl38 : K.lookup ha38 = some ⟨oc38, od38, .func (PySem.W.fnOf "_law_wide" "_law_wide" (defArgs s_law_wide) (defBody s_law_wide) (defScope s_law_wide) .none kV38 dc38 pm38 an38 cd38 ct38), shl38⟩)
    (hk38 : PySem.W.codeIn K cd38 "_law_wide" = true)
    (hp38 : PySem.W.keepIn K (.ref ha38) = true)
    (hg39 : PySem.W.nsIn K mainGlobals "_law_bits" = some (some (.ref ha39)))
    (hl39 : K.lookup ha39 = some ⟨oc39, od39, .func (PySem.W.fnOf "_law_bits" "_law_bits" (defArgs s_law_bits) (defBody s_law_bits) (defScope s_law_bits) .none kV39 dc39 pm39 an39 cd39 ct39), shl39⟩)
    (hk39 : PySem.W.codeIn K cd39 "_law_bits" = true)
    (hp39 : PySem.W.keepIn K (.ref ha39) = true)
    (hg40 : PySem.W.nsIn K mainGlobals "_law_gate" = some (some (.ref ha40)))
    (hl40 : K.lookup ha40 = some ⟨oc40, od40, .func (PySem.W.fnOf "_law_gate" "_law_gate" (defArgs s_law_gate) (defBody s_law_gate) (defScope s_law_gate) .none kV40 dc40 pm40 an40 cd40 ct40), shl40⟩)
    (hk40 : PySem.W.codeIn K cd40 "_law_gate" = true)
    (hp40 : PySem.W.keepIn K (.ref ha40) = true)
    (hg41 : PySem.W.nsIn K mainGlobals "_law_good" = some (some (.ref ha41)))
    (hl41 : K.lookup ha41 = some ⟨oc41, od41, .func (PySem.W.fnOf "_law_good" "_law_good" (defArgs s_law_good) (defBody s_law_good) (defScope s_law_good) .none kV41 dc41 pm41 an41 cd41 ct41), shl41⟩)
    (hk41 : PySem.W.codeIn K cd41 "_law_good" = true)
    (hp41 : PySem.W.keepIn K (.ref ha41) = true)
    (hg42 : PySem.W.nsIn K mainGlobals "_law_names_of" = some (some (.ref ha42)))
    (hl42 : K.lookup ha42 = some ⟨oc42, od42, .func (PySem.W.fnOf "_law_names_of" "_law_names_of" (defArgs s_law_names_of) (defBody s_law_names_of) (defScope s_law_names_of) .none kV42 dc42 pm42 an42 cd42 ct42), shl42⟩)
    (hk42 : PySem.W.codeIn K cd42 "_law_names_of" = true)
    (hp42 : PySem.W.keepIn K (.ref ha42) = true)
    (hg43 : PySem.W.nsIn K mainGlobals "_law_formed" = some (some (.ref ha43)))
    (hl43 : K.lookup ha43 = some ⟨oc43, od43, .func (PySem.W.fnOf "_law_formed" "_law_formed" (defArgs s_law_formed) (defBody s_law_formed) (defScope s_law_formed) .none kV43 dc43 pm43 an43 cd43 ct43), shl43⟩)
    (hk43 : PySem.W.codeIn K cd43 "_law_formed" = true)
    (hp43 : PySem.W.keepIn K (.ref ha43) = true)
    (hg44 : PySem.W.nsIn K mainGlobals "_law_words" = some (some (.ref ha44)))
    (hl44 : K.lookup ha44 = some ⟨oc44, od44, .func (PySem.W.fnOf "_law_words" "_law_words" (defArgs s_law_words) (defBody s_law_words) (defScope s_law_words) .none kV44 dc44 pm44 an44 cd44 ct44), shl44⟩)
    (hk44 : PySem.W.codeIn K cd44 "_law_words" = true)
    (hp44 : PySem.W.keepIn K (.ref ha44) = true)
    (hg45 : PySem.W.nsIn K mainGlobals "_law_number" = some (some (.ref ha45)))
    (hl45 : K.lookup ha45 = some ⟨oc45, od45, .func (PySem.W.fnOf "_law_number" "_law_number" (defArgs s_law_number) (defBody s_law_number) (defScope s_law_number) .none kV45 dc45 pm45 an45 cd45 ct45), shl45⟩)
    (hk45 : PySem.W.codeIn K cd45 "_law_number" = true)
    (hp45 : PySem.W.keepIn K (.ref ha45) = true)
    (hg46 : PySem.W.nsIn K mainGlobals "_law_asked" = some (some (.ref ha46)))
    (hl46 : K.lookup ha46 = some ⟨oc46, od46, .func (PySem.W.fnOf "_law_asked" "_law_asked" (defArgs s_law_asked) (defBody s_law_asked) (defScope s_law_asked) .none kV46 dc46 pm46 an46 cd46 ct46), shl46⟩)
    (hk46 : PySem.W.codeIn K cd46 "_law_asked" = true)
    (hp46 : PySem.W.keepIn K (.ref ha46) = true)
    (hg47 : PySem.W.nsIn K mainGlobals "_law_held" = some (some (.ref ha47)))
    (hl47 : K.lookup ha47 = some ⟨oc47, od47, .func (PySem.W.fnOf "_law_held" "_law_held" (defArgs s_law_held) (defBody s_law_held) (defScope s_law_held) .none kV47 dc47 pm47 an47 cd47 ct47), shl47⟩)
    (hk47 : PySem.W.codeIn K cd47 "_law_held" = true)
    (hp47 : PySem.W.keepIn K (.ref ha47) = true)
    (hg48 : PySem.W.nsIn K mainGlobals "_law_drawn" = some (some (.ref ha48)))
    (hl48 : K.lookup ha48 = some ⟨oc48, od48, .func (PySem.W.fnOf "_law_drawn" "_law_drawn" (defArgs s_law_drawn) (defBody s_law_drawn) (defScope s_law_drawn) .none kV48 dc48 pm48 an48 cd48 ct48), shl48⟩)
    (hk48 : PySem.W.codeIn K cd48 "_law_drawn" = true)
    (hp48 : PySem.W.keepIn K (.ref ha48) = true)
    (hg49 : PySem.W.nsIn K mainGlobals "law" = some (some (.ref ha49)))
    (hl49 : K.lookup ha49 = some ⟨oc49, od49, .func (PySem.W.fnOf "law" "law" (defArgs s_law) (defBody s_law) (defScope s_law) .none kV49 dc49 pm49 an49 cd49 ct49), shl49⟩)
    (hk49 : PySem.W.codeIn K cd49 "law" = true)
    (hp49 : PySem.W.keepIn K (.ref ha49) = true)
    (gc_PressError : PySem.W.nsIn K mainGlobals "PressError" = some (some (.ref c_PressError)))
    (kc_PressError : PySem.W.keepIn K (.ref c_PressError) = true)
    (x_PressError : PySem.W.excIn K c_PressError [.type "ValueError", .type "Exception", .type "BaseException", .type "object"] "ValueError.__new__" = true)
    (xb_PressError : PySem.W.subIn K (.ref c_PressError) (.type "BaseException") = some true)
    (xt_PressError : PySem.W.typeIn K (.ref c_PressError) = some (.type "type"))
    (ehd_PressError : PySem.W.hasDictIn K c_PressError = true)
    (gc_TooFew : PySem.W.nsIn K mainGlobals "TooFew" = some (some (.ref c_TooFew)))
    (kc_TooFew : PySem.W.keepIn K (.ref c_TooFew) = true)
    (x_TooFew : PySem.W.excIn K c_TooFew [.type "ValueError", .type "Exception", .type "BaseException", .type "object"] "ValueError.__new__" = true)
    (xb_TooFew : PySem.W.subIn K (.ref c_TooFew) (.type "BaseException") = some true)
    (xt_TooFew : PySem.W.typeIn K (.ref c_TooFew) = some (.type "type"))
    (ehd_TooFew : PySem.W.hasDictIn K c_TooFew = true)
    (gc_TooMany : PySem.W.nsIn K mainGlobals "TooMany" = some (some (.ref c_TooMany)))
    (kc_TooMany : PySem.W.keepIn K (.ref c_TooMany) = true)
    (x_TooMany : PySem.W.excIn K c_TooMany [.type "ValueError", .type "Exception", .type "BaseException", .type "object"] "ValueError.__new__" = true)
    (xb_TooMany : PySem.W.subIn K (.ref c_TooMany) (.type "BaseException") = some true)
    (xt_TooMany : PySem.W.typeIn K (.ref c_TooMany) = some (.type "type"))
    (ehd_TooMany : PySem.W.hasDictIn K c_TooMany = true)
    (gc_TooWide : PySem.W.nsIn K mainGlobals "TooWide" = some (some (.ref c_TooWide)))
    (kc_TooWide : PySem.W.keepIn K (.ref c_TooWide) = true)
    (x_TooWide : PySem.W.excIn K c_TooWide [.type "ValueError", .type "Exception", .type "BaseException", .type "object"] "ValueError.__new__" = true)
    (xb_TooWide : PySem.W.subIn K (.ref c_TooWide) (.type "BaseException") = some true)
    (xt_TooWide : PySem.W.typeIn K (.ref c_TooWide) = some (.type "type"))
    (ehd_TooWide : PySem.W.hasDictIn K c_TooWide = true)
    (ega_TooWide : PySem.W.findIn K (.ref c_TooWide) "__getattribute__" = some (some (.builtin "BaseException.__getattribute__")))
    (egg_TooWide : PySem.W.findIn K (.ref c_TooWide) "__getattr__" = some none)
    (ecl_TooWide : PySem.W.findIn K (.ref c_TooWide) "__class__" = some (some (.builtin "object.__class__")))
    (esp_TooWide : PySem.W.specialIn K (.builtin "object.__class__") "__get__" = some (some (.builtin "getset_descriptor.__get__")))
    (etk_TooWide : PySem.W.takesIn K (.builtin "object.__class__") = some true)
    (emr_TooWide : PySem.W.mroIn K c_TooWide (.type "object") = some true)
    (sv_TooWide : PySem.W.subIn K (.ref c_TooWide) (.type "ValueError") = some true)
    (s_TooWide_PressError : PySem.W.subIn K (.ref c_TooWide) (.ref c_PressError) = some true)
    (s_TooWide_TooFew : PySem.W.subIn K (.ref c_TooWide) (.ref c_TooFew) = some false)
    (s_TooWide_TooMany : PySem.W.subIn K (.ref c_TooWide) (.ref c_TooMany) = some false)
    (s_TooWide_TooWide : PySem.W.subIn K (.ref c_TooWide) (.ref c_TooWide) = some true)
    (s_TooWide_NoFormula : PySem.W.subIn K (.ref c_TooWide) (.ref c_NoFormula) = some false)
    (s_TooWide_NoName : PySem.W.subIn K (.ref c_TooWide) (.ref c_NoName) = some false)
    (s_TooWide_NoLine : PySem.W.subIn K (.ref c_TooWide) (.ref c_NoLine) = some false)
    (s_TooWide_NoCircuit : PySem.W.subIn K (.ref c_TooWide) (.ref c_NoCircuit) = some false)
    (s_TooWide_OutOfWidth : PySem.W.subIn K (.ref c_TooWide) (.ref c_OutOfWidth) = some false)
    (gc_NoFormula : PySem.W.nsIn K mainGlobals "NoFormula" = some (some (.ref c_NoFormula)))
    (kc_NoFormula : PySem.W.keepIn K (.ref c_NoFormula) = true)
    (x_NoFormula : PySem.W.excIn K c_NoFormula [.type "ValueError", .type "Exception", .type "BaseException", .type "object"] "ValueError.__new__" = true)
    (xb_NoFormula : PySem.W.subIn K (.ref c_NoFormula) (.type "BaseException") = some true)
    (xt_NoFormula : PySem.W.typeIn K (.ref c_NoFormula) = some (.type "type"))
    (ehd_NoFormula : PySem.W.hasDictIn K c_NoFormula = true)
    (gc_NoName : PySem.W.nsIn K mainGlobals "NoName" = some (some (.ref c_NoName)))
    (kc_NoName : PySem.W.keepIn K (.ref c_NoName) = true)
    (x_NoName : PySem.W.excIn K c_NoName [.type "ValueError", .type "Exception", .type "BaseException", .type "object"] "ValueError.__new__" = true)
    (xb_NoName : PySem.W.subIn K (.ref c_NoName) (.type "BaseException") = some true)
    (xt_NoName : PySem.W.typeIn K (.ref c_NoName) = some (.type "type"))
    (ehd_NoName : PySem.W.hasDictIn K c_NoName = true)
    (ega_NoName : PySem.W.findIn K (.ref c_NoName) "__getattribute__" = some (some (.builtin "BaseException.__getattribute__")))
    (egg_NoName : PySem.W.findIn K (.ref c_NoName) "__getattr__" = some none)
    (ecl_NoName : PySem.W.findIn K (.ref c_NoName) "__class__" = some (some (.builtin "object.__class__")))
    (esp_NoName : PySem.W.specialIn K (.builtin "object.__class__") "__get__" = some (some (.builtin "getset_descriptor.__get__")))
    (etk_NoName : PySem.W.takesIn K (.builtin "object.__class__") = some true)
    (emr_NoName : PySem.W.mroIn K c_NoName (.type "object") = some true)
    (sv_NoName : PySem.W.subIn K (.ref c_NoName) (.type "ValueError") = some true)
    (s_NoName_PressError : PySem.W.subIn K (.ref c_NoName) (.ref c_PressError) = some true)
    (s_NoName_TooFew : PySem.W.subIn K (.ref c_NoName) (.ref c_TooFew) = some false)
    (s_NoName_TooMany : PySem.W.subIn K (.ref c_NoName) (.ref c_TooMany) = some false)
    (s_NoName_TooWide : PySem.W.subIn K (.ref c_NoName) (.ref c_TooWide) = some false)
    (s_NoName_NoFormula : PySem.W.subIn K (.ref c_NoName) (.ref c_NoFormula) = some false)
    (s_NoName_NoName : PySem.W.subIn K (.ref c_NoName) (.ref c_NoName) = some true)
    (s_NoName_NoLine : PySem.W.subIn K (.ref c_NoName) (.ref c_NoLine) = some false)
    (s_NoName_NoCircuit : PySem.W.subIn K (.ref c_NoName) (.ref c_NoCircuit) = some false)
    (s_NoName_OutOfWidth : PySem.W.subIn K (.ref c_NoName) (.ref c_OutOfWidth) = some false)
    (gc_NoLine : PySem.W.nsIn K mainGlobals "NoLine" = some (some (.ref c_NoLine)))
    (kc_NoLine : PySem.W.keepIn K (.ref c_NoLine) = true)
    (x_NoLine : PySem.W.excIn K c_NoLine [.type "ValueError", .type "Exception", .type "BaseException", .type "object"] "ValueError.__new__" = true)
    (xb_NoLine : PySem.W.subIn K (.ref c_NoLine) (.type "BaseException") = some true)
    (xt_NoLine : PySem.W.typeIn K (.ref c_NoLine) = some (.type "type"))
    (ehd_NoLine : PySem.W.hasDictIn K c_NoLine = true)
    (gc_NoCircuit : PySem.W.nsIn K mainGlobals "NoCircuit" = some (some (.ref c_NoCircuit)))
    (kc_NoCircuit : PySem.W.keepIn K (.ref c_NoCircuit) = true)
    (x_NoCircuit : PySem.W.excIn K c_NoCircuit [.type "ValueError", .type "Exception", .type "BaseException", .type "object"] "ValueError.__new__" = true)
    (xb_NoCircuit : PySem.W.subIn K (.ref c_NoCircuit) (.type "BaseException") = some true)
    (xt_NoCircuit : PySem.W.typeIn K (.ref c_NoCircuit) = some (.type "type"))
    (ehd_NoCircuit : PySem.W.hasDictIn K c_NoCircuit = true)
    (gc_OutOfWidth : PySem.W.nsIn K mainGlobals "OutOfWidth" = some (some (.ref c_OutOfWidth)))
    (kc_OutOfWidth : PySem.W.keepIn K (.ref c_OutOfWidth) = true)
    (x_OutOfWidth : PySem.W.excIn K c_OutOfWidth [.type "ValueError", .type "Exception", .type "BaseException", .type "object"] "ValueError.__new__" = true)
    (xb_OutOfWidth : PySem.W.subIn K (.ref c_OutOfWidth) (.type "BaseException") = some true)
    (xt_OutOfWidth : PySem.W.typeIn K (.ref c_OutOfWidth) = some (.type "type"))
    (ehd_OutOfWidth : PySem.W.hasDictIn K c_OutOfWidth = true)
    (gc_Splits : PySem.W.nsIn K mainGlobals "Splits" = some (some (.ref c_Splits)))
    (kc_Splits : PySem.W.keepIn K (.ref c_Splits) = true)
    (pg_Splits : PySem.W.plainGet K c_Splits Str.empty = true)
    (hd_Splits : PySem.W.hasDictIn K c_Splits = true)
    (po_Splits : PySem.W.plainOver K c_Splits = true)
    (sa_Splits : PySem.W.findIn K (.ref c_Splits) "__setattr__" = some (some (.builtin "object.__setattr__")))
    (mk_Splits : PySem.W.makesIn K c_Splits = true)
    (n_Splits_numbers : PySem.W.findIn K (.ref c_Splits) "numbers" = some none)
    (n_Splits_at : PySem.W.findIn K (.ref c_Splits) "at" = some none)
    (gc_Heap : PySem.W.nsIn K mainGlobals "Heap" = some (some (.ref c_Heap)))
    (kc_Heap : PySem.W.keepIn K (.ref c_Heap) = true)
    (pg_Heap : PySem.W.plainGet K c_Heap Str.empty = true)
    (hd_Heap : PySem.W.hasDictIn K c_Heap = true)
    (po_Heap : PySem.W.plainOver K c_Heap = true)
    (sa_Heap : PySem.W.findIn K (.ref c_Heap) "__setattr__" = some (some (.builtin "object.__setattr__")))
    (mk_Heap : PySem.W.makesIn K c_Heap = true)
    (n_Heap_many : PySem.W.findIn K (.ref c_Heap) "many" = some none)
    (n_Heap_columns : PySem.W.findIn K (.ref c_Heap) "columns" = some none)
    (gc_Sheet : PySem.W.nsIn K mainGlobals "Sheet" = some (some (.ref c_Sheet)))
    (kc_Sheet : PySem.W.keepIn K (.ref c_Sheet) = true)
    (pg_Sheet : PySem.W.plainGet K c_Sheet Str.empty = true)
    (hd_Sheet : PySem.W.hasDictIn K c_Sheet = true)
    (po_Sheet : PySem.W.plainOver K c_Sheet = true)
    (sa_Sheet : PySem.W.findIn K (.ref c_Sheet) "__setattr__" = some (some (.builtin "object.__setattr__")))
    (mk_Sheet : PySem.W.makesIn K c_Sheet = true)
    (n_Sheet_rows : PySem.W.findIn K (.ref c_Sheet) "rows" = some none)
    (gc_Circuit : PySem.W.nsIn K mainGlobals "Circuit" = some (some (.ref c_Circuit)))
    (kc_Circuit : PySem.W.keepIn K (.ref c_Circuit) = true)
    (pg_Circuit : PySem.W.plainGet K c_Circuit Str.empty = true)
    (hd_Circuit : PySem.W.hasDictIn K c_Circuit = true)
    (po_Circuit : PySem.W.plainOver K c_Circuit = true)
    (sa_Circuit : PySem.W.findIn K (.ref c_Circuit) "__setattr__" = some (some (.builtin "object.__setattr__")))
    (mk_Circuit : PySem.W.makesIn K c_Circuit = true)
    (icl_Circuit : PySem.W.findIn K (.ref c_Circuit) "__class__" = some (some (.builtin "object.__class__")))
    (isp_Circuit : PySem.W.specialIn K (.builtin "object.__class__") "__get__" = some (some (.builtin "getset_descriptor.__get__")))
    (itk_Circuit : PySem.W.takesIn K (.builtin "object.__class__") = some true)
    (imr_Circuit : PySem.W.mroIn K c_Circuit (.type "object") = some true)
    (n_Circuit_rows : PySem.W.findIn K (.ref c_Circuit) "rows" = some none)
    (n_Circuit_outs : PySem.W.findIn K (.ref c_Circuit) "outs" = some none)
    (n_Circuit_below : PySem.W.findIn K (.ref c_Circuit) "below" = some none)
    (gc_Plan : PySem.W.nsIn K mainGlobals "Plan" = some (some (.ref c_Plan)))
    (kc_Plan : PySem.W.keepIn K (.ref c_Plan) = true)
    (pg_Plan : PySem.W.plainGet K c_Plan Str.empty = true)
    (hd_Plan : PySem.W.hasDictIn K c_Plan = true)
    (po_Plan : PySem.W.plainOver K c_Plan = true)
    (sa_Plan : PySem.W.findIn K (.ref c_Plan) "__setattr__" = some (some (.builtin "object.__setattr__")))
    (mk_Plan : PySem.W.makesIn K c_Plan = true)
    (n_Plan_sheet : PySem.W.findIn K (.ref c_Plan) "sheet" = some none)
    (n_Plan_widths : PySem.W.findIn K (.ref c_Plan) "widths" = some none)
    (n_Plan_order : PySem.W.findIn K (.ref c_Plan) "order" = some none)
    (n_Plan_splits : PySem.W.findIn K (.ref c_Plan) "splits" = some none)
    (z_abs : PySem.W.nsIn K mainGlobals "abs" = some none)
    (z_bool : PySem.W.nsIn K mainGlobals "bool" = some none)
    (z_enumerate : PySem.W.nsIn K mainGlobals "enumerate" = some none)
    (z_int : PySem.W.nsIn K mainGlobals "int" = some none)
    (z_isinstance : PySem.W.nsIn K mainGlobals "isinstance" = some none)
    (z_len : PySem.W.nsIn K mainGlobals "len" = some none)
    (z_list : PySem.W.nsIn K mainGlobals "list" = some none)
    (z_max : PySem.W.nsIn K mainGlobals "max" = some none)
    (z_min : PySem.W.nsIn K mainGlobals "min" = some none)
    (z_range : PySem.W.nsIn K mainGlobals "range" = some none)
    (z_str : PySem.W.nsIn K mainGlobals "str" = some none)
    (z_sum : PySem.W.nsIn K mainGlobals "sum" = some none)
    (z_tuple : PySem.W.nsIn K mainGlobals "tuple" = some none)
    (gk_ROOM : PySem.W.nsIn K mainGlobals "ROOM" = some (some (Value.int 48 tk_ROOM))) :
    ∃ fd : FuncData, (∀ (s : Shared) (v : Value), BindsTo s fd ⟨[v], []⟩ [("_law_script", v)]) ∧ ∀ base : Heap, K.In base → base.Ns mainGlobals mg → FnOk l.prog w K mg base CX0 173 fa fd ["_law_script"] (sp_law K) := by
  have e := hfa.symm.trans (PySem.W.mg_of X G hg49)
  cases e
  have F0 := fun_mk (st := s_Splits__init) hl0 hk0 hp0
  have B0 := F0.binds (ps := ["self", "numbers"]) fun _ _ _ _ _ _ us hl => match us, hl with | [_, _], _ => rfl
  have F1 := fun_mk (st := s_Splits_part) hl1 hk1 hp1
  have B1 := F1.binds (ps := ["self", "low", "high"]) fun _ _ _ _ _ _ us hl => match us, hl with | [_, _, _], _ => rfl
  have F2 := fun_mk (st := s_joined) hl2 hk2 hp2
  have B2 := F2.binds (ps := ["sheet", "high", "low"]) fun _ _ _ _ _ _ us hl => match us, hl with | [_, _, _], _ => rfl
  have F3 := fun_mk (st := s_stretch) hl3 hk3 hp3
  have B3 := F3.binds (ps := ["sheet", "pairs", "low", "high", "splits"]) fun _ _ _ _ _ _ us hl => match us, hl with | [_, _, _, _, _], _ => rfl
  have F4 := fun_mk (st := s_prefixes) hl4 hk4 hp4
  have B4 := F4.binds (ps := ["sheet", "pairs", "splits"]) fun _ _ _ _ _ _ us hl => match us, hl with | [_, _, _], _ => rfl
  have F5 := fun_mk (st := s_summed) hl5 hk5 hp5
  have B5 := F5.binds (ps := ["sheet", "heap", "splits"]) fun _ _ _ _ _ _ us hl => match us, hl with | [_, _, _], _ => rfl
  have F6 := fun_mk (st := s_span_of_width) hl6 hk6 hp6
  have B6 := F6.binds (ps := ["width"]) fun _ _ _ _ _ _ us hl => match us, hl with | [_], _ => rfl
  have F7 := fun_mk (st := s_room_of) hl7 hk7 hp7
  have B7 := F7.binds (ps := ["span"]) fun _ _ _ _ _ _ us hl => match us, hl with | [_], _ => rfl
  have F8 := fun_mk (st := s_span_of) hl8 hk8 hp8
  have B8 := F8.binds (ps := ["formula", "widths"]) fun _ _ _ _ _ _ us hl => match us, hl with | [_, _], _ => rfl
  have F9 := fun_mk (st := s_parts_of) hl9 hk9 hp9
  have B9 := F9.binds (ps := ["formula"]) fun _ _ _ _ _ _ us hl => match us, hl with | [_], _ => rfl
  have F10 := fun_mk (st := s_Heap__init) hl10 hk10 hp10
  have B10 := F10.binds (ps := ["self", "many"]) fun _ _ _ _ _ _ us hl => match us, hl with | [_, _], _ => rfl
  have F11 := fun_mk (st := s_Heap_put) hl11 hk11 hp11
  have B11 := F11.binds (ps := ["self", "column", "wire"]) fun _ _ _ _ _ _ us hl => match us, hl with | [_, _, _], _ => rfl
  have F12 := fun_mk (st := s_Heap_heights) hl12 hk12 hp12
  have B12 := F12.binds (ps := ["self"]) fun _ _ _ _ _ _ us hl => match us, hl with | [_], _ => rfl
  have F13 := fun_mk (st := s_Heap_column) hl13 hk13 hp13
  have B13 := F13.binds (ps := ["self", "k"]) fun _ _ _ _ _ _ us hl => match us, hl with | [_, _], _ => rfl
  have F14 := fun_mk (st := s_Heap_press) hl14 hk14 hp14
  have B14 := F14.binds (ps := ["self", "sheet", "k"]) fun _ _ _ _ _ _ us hl => match us, hl with | [_, _, _], _ => rfl
  have F15 := fun_mk (st := s_high_columns) hl15 hk15 hp15
  have B15 := F15.binds (ps := ["heap"]) fun _ _ _ _ _ _ us hl => match us, hl with | [_], _ => rfl
  have F16 := fun_mk (st := s_press_by_order) hl16 hk16 hp16
  have B16 := F16.binds (ps := ["sheet", "heap", "order"]) fun _ _ _ _ _ _ us hl => match us, hl with | [_, _, _], _ => rfl
  have F17 := fun_mk (st := s_press_by_rounds) hl17 hk17 hp17
  have B17 := F17.binds (ps := ["sheet", "heap"]) fun _ _ _ _ _ _ us hl => match us, hl with | [_, _], _ => rfl
  have F18 := fun_mk (st := s_Sheet__init) hl18 hk18 hp18
  have B18 := F18.binds (ps := ["self"]) fun _ _ _ _ _ _ us hl => match us, hl with | [_], _ => rfl
  have F19 := fun_mk (st := s_Sheet_add) hl19 hk19 hp19
  have B19 := F19.binds (ps := ["self", "row"]) fun _ _ _ _ _ _ us hl => match us, hl with | [_, _], _ => rfl
  have F20 := fun_mk (st := s_Sheet_rows_now) hl20 hk20 hp20
  have B20 := F20.binds (ps := ["self"]) fun _ _ _ _ _ _ us hl => match us, hl with | [_], _ => rfl
  have F21 := fun_mk (st := s_Circuit__init) hl21 hk21 hp21
  have B21 := F21.binds (ps := ["self", "rows", "outs", "below"]) fun _ _ _ _ _ _ us hl => match us, hl with | [_, _, _, _], _ => rfl
  have F22 := fun_mk (st := s_Plan__init) hl22 hk22 hp22
  have B22 := F22.binds (ps := ["self", "widths", "order", "splits"]) fun _ _ _ _ _ _ us hl => match us, hl with | [_, _, _, _], _ => rfl
  have F23 := fun_mk (st := s_Plan_finished) hl23 hk23 hp23
  have B23 := F23.binds (ps := ["self", "heap"]) fun _ _ _ _ _ _ us hl => match us, hl with | [_, _], _ => rfl
  have F24 := fun_mk (st := s_apart) hl24 hk24 hp24
  have B24 := F24.binds (ps := ["formula", "sign"]) fun _ _ _ _ _ _ us hl => match us, hl with | [_, _], _ => rfl
  have F25 := fun_mk (st := s_name_dots) hl25 hk25 hp25
  have B25 := F25.binds (ps := ["plan", "name"]) fun _ _ _ _ _ _ us hl => match us, hl with | [_, _], _ => rfl
  have F26 := fun_mk (st := s_word_dots) hl26 hk26 hp26
  have B26 := F26.binds (ps := ["plan", "formula"]) fun _ _ _ _ _ _ us hl => match us, hl with | [_, _], _ => rfl
  have F27 := fun_mk (st := s_part_dots) hl27 hk27 hp27
  have B27 := F27.binds (ps := ["plan", "formula", "many"]) fun _ _ _ _ _ _ us hl => match us, hl with | [_, _, _], _ => rfl
  have F28 := fun_mk (st := s_bits_made) hl28 hk28 hp28
  have B28 := F28.binds (ps := ["plan", "formula"]) fun _ _ _ _ _ _ us hl => match us, hl with | [_, _], _ => rfl
  have F29 := fun_mk (st := s_look) hl29 hk29 hp29
  have B29 := F29.binds (ps := ["formula", "widths"]) fun _ _ _ _ _ _ us hl => match us, hl with | [_, _], _ => rfl
  have F30 : FunD K "circuit_of" "circuit_of" (defArgs s_circuit_of) (defBody s_circuit_of) (defScope s_circuit_of) [V.non, V.non] [] ha30 _ := ⟨⟨_, _, _, _, _, _, _, _, _, _, rfl, hl30, hk30, .inr ⟨by simp, hT30, _, [Value.none, Value.none], _, rfl, ht30, rfl, .cons rfl (.cons rfl (.nil))⟩, .inl rfl⟩, hp30⟩
  have B30_0 : Binds K (PySem.W.fnOf "circuit_of" "circuit_of" (defArgs s_circuit_of) (defBody s_circuit_of) (defScope s_circuit_of) (.ref hT30) kV30 dc30 pm30 an30 cd30 ct30) ["formula", "widths", "order", "splits"] [] := by
    obtain ⟨ds, r, b⟩ := F30.binds1 (ps := ["formula", "widths", "order", "splits"]) 4 2 (by simp) rfl (fun T kV doc pm an cdv ct us its h1 h2 => match us, its, h1, h2 with | [_, _, _, _], [_, _], _, _ => ⟨_, rfl, rfl⟩)
    cases r
    exact b
  have B30_1 : Binds K (PySem.W.fnOf "circuit_of" "circuit_of" (defArgs s_circuit_of) (defBody s_circuit_of) (defScope s_circuit_of) (.ref hT30) kV30 dc30 pm30 an30 cd30 ct30) ["formula", "widths", "order", "splits"] [Value.none] := by
    obtain ⟨ds, r, b⟩ := F30.binds1 (ps := ["formula", "widths", "order", "splits"]) 3 1 (by simp) rfl (fun T kV doc pm an cdv ct us its h1 h2 => match us, its, h1, h2 with | [_, _, _], [_, _], _, _ => ⟨_, rfl, rfl⟩)
    obtain _ | ⟨r0, t0⟩ := r
    cases r0
    cases t0
    exact b
  have B30_2 : Binds K (PySem.W.fnOf "circuit_of" "circuit_of" (defArgs s_circuit_of) (defBody s_circuit_of) (defScope s_circuit_of) (.ref hT30) kV30 dc30 pm30 an30 cd30 ct30) ["formula", "widths", "order", "splits"] [Value.none, Value.none] := by
    obtain ⟨ds, r, b⟩ := F30.binds1 (ps := ["formula", "widths", "order", "splits"]) 2 0 (by simp) rfl (fun T kV doc pm an cdv ct us its h1 h2 => match us, its, h1, h2 with | [_, _], [_, _], _, _ => ⟨_, rfl, rfl⟩)
    obtain _ | ⟨r0, t0⟩ := r
    cases r0
    obtain _ | ⟨r1, t1⟩ := t0
    cases r1
    cases t1
    exact b
  have F31 := fun_mk (st := s_law_mixed) hl31 hk31 hp31
  have B31 := F31.binds (ps := ["_law_cell", "_law_k"]) fun _ _ _ _ _ _ us hl => match us, hl with | [_, _], _ => rfl
  have F32 := fun_mk (st := s_law_whole) hl32 hk32 hp32
  have B32 := F32.binds (ps := ["_law_found"]) fun _ _ _ _ _ _ us hl => match us, hl with | [_], _ => rfl
  have F33 := fun_mk (st := s_law_names) hl33 hk33 hp33
  have B33 := F33.binds (ps := ["_law_cell"]) fun _ _ _ _ _ _ us hl => match us, hl with | [_], _ => rfl
  have F34 := fun_mk (st := s_law_worth) hl34 hk34 hp34
  have B34 := F34.binds (ps := ["_law_formula", "_law_words_here"]) fun _ _ _ _ _ _ us hl => match us, hl with | [_, _], _ => rfl
  have F35 := fun_mk (st := s_law_ends) hl35 hk35 hp35
  have B35 := F35.binds (ps := ["_law_width"]) fun _ _ _ _ _ _ us hl => match us, hl with | [_], _ => rfl
  have F36 := fun_mk (st := s_law_span) hl36 hk36 hp36
  have B36 := F36.binds (ps := ["_law_formula", "_law_widths"]) fun _ _ _ _ _ _ us hl => match us, hl with | [_, _], _ => rfl
  have F37 := fun_mk (st := s_law_room) hl37 hk37 hp37
  have B37 := F37.binds (ps := ["_law_span_here"]) fun _ _ _ _ _ _ us hl => match us, hl with | [_], _ => rfl
  have F38 := fun_mk (st := s_law_wide) hl38 hk38 hp38
  have B38 := F38.binds (ps := ["_law_formula", "_law_widths"]) fun _ _ _ _ _ _ us hl => match us, hl with | [_, _], _ => rfl
  have F39 := fun_mk (st := s_law_bits) hl39 hk39 hp39
  have B39 := F39.binds (ps := ["_law_rows", "_law_words_here"]) fun _ _ _ _ _ _ us hl => match us, hl with | [_, _], _ => rfl
  have F40 := fun_mk (st := s_law_gate) hl40 hk40 hp40
  have B40 := F40.binds (ps := ["_law_row", "_law_at"]) fun _ _ _ _ _ _ us hl => match us, hl with | [_, _], _ => rfl
  have F41 := fun_mk (st := s_law_good) hl41 hk41 hp41
  have B41 := F41.binds (ps := ["_law_rows", "_law_names_here"]) fun _ _ _ _ _ _ us hl => match us, hl with | [_, _], _ => rfl
  have F42 := fun_mk (st := s_law_names_of) hl42 hk42 hp42
  have B42 := F42.binds (ps := ["_law_formula"]) fun _ _ _ _ _ _ us hl => match us, hl with | [_], _ => rfl
  have F43 := fun_mk (st := s_law_formed) hl43 hk43 hp43
  have B43 := F43.binds (ps := ["_law_found", "_law_formula", "_law_widths"]) fun _ _ _ _ _ _ us hl => match us, hl with | [_, _, _], _ => rfl
  have F44 := fun_mk (st := s_law_words) hl44 hk44 hp44
  have B44 := F44.binds (ps := ["_law_widths", "_law_seed", "_law_turn"]) fun _ _ _ _ _ _ us hl => match us, hl with | [_, _, _], _ => rfl
  have F45 := fun_mk (st := s_law_number) hl45 hk45 hp45
  have B45 := F45.binds (ps := ["_law_bits_here", "_law_outs", "_law_below"]) fun _ _ _ _ _ _ us hl => match us, hl with | [_, _, _], _ => rfl
  have F46 := fun_mk (st := s_law_asked) hl46 hk46 hp46
  have B46 := F46.binds (ps := ["_law_formula", "_law_widths"]) fun _ _ _ _ _ _ us hl => match us, hl with | [_, _], _ => rfl
  have F47 := fun_mk (st := s_law_held) hl47 hk47 hp47
  have B47 := F47.binds (ps := ["_law_formula", "_law_widths", "_law_seed"]) fun _ _ _ _ _ _ us hl => match us, hl with | [_, _, _], _ => rfl
  have F48 := fun_mk (st := s_law_drawn) hl48 hk48 hp48
  have B48 := F48.binds (ps := ["_law_names_here", "_law_seed", "_law_size"]) fun _ _ _ _ _ _ us hl => match us, hl with | [_, _, _], _ => rfl
  have F49 := fun_mk (st := s_law) hl49 hk49 hp49
  have B49 := F49.binds (ps := ["_law_script"]) fun _ _ _ _ _ _ us hl => match us, hl with | [_], _ => rfl
  let T : Top K mg := ⟨ha0,
    _,
    F0,
    B0,
    ha1,
    _,
    F1,
    B1,
    ha2,
    _,
    F2,
    B2,
    PySem.W.mg_of X G hg2,
    ha3,
    _,
    F3,
    B3,
    PySem.W.mg_of X G hg3,
    ha4,
    _,
    F4,
    B4,
    PySem.W.mg_of X G hg4,
    ha5,
    _,
    F5,
    B5,
    PySem.W.mg_of X G hg5,
    ha6,
    _,
    F6,
    B6,
    PySem.W.mg_of X G hg6,
    ha7,
    _,
    F7,
    B7,
    PySem.W.mg_of X G hg7,
    ha8,
    _,
    F8,
    B8,
    PySem.W.mg_of X G hg8,
    ha9,
    _,
    F9,
    B9,
    PySem.W.mg_of X G hg9,
    ha10,
    _,
    F10,
    B10,
    ha11,
    _,
    F11,
    B11,
    ha12,
    _,
    F12,
    B12,
    ha13,
    _,
    F13,
    B13,
    ha14,
    _,
    F14,
    B14,
    ha15,
    _,
    F15,
    B15,
    PySem.W.mg_of X G hg15,
    ha16,
    _,
    F16,
    B16,
    PySem.W.mg_of X G hg16,
    ha17,
    _,
    F17,
    B17,
    PySem.W.mg_of X G hg17,
    ha18,
    _,
    F18,
    B18,
    ha19,
    _,
    F19,
    B19,
    ha20,
    _,
    F20,
    B20,
    ha21,
    _,
    F21,
    B21,
    ha22,
    _,
    F22,
    B22,
    ha23,
    _,
    F23,
    B23,
    ha24,
    _,
    F24,
    B24,
    PySem.W.mg_of X G hg24,
    ha25,
    _,
    F25,
    B25,
    PySem.W.mg_of X G hg25,
    ha26,
    _,
    F26,
    B26,
    PySem.W.mg_of X G hg26,
    ha27,
    _,
    F27,
    B27,
    PySem.W.mg_of X G hg27,
    ha28,
    _,
    F28,
    B28,
    PySem.W.mg_of X G hg28,
    ha29,
    _,
    F29,
    B29,
    PySem.W.mg_of X G hg29,
    ha30,
    _,
    F30,
    B30_0,
    B30_1,
    B30_2,
    PySem.W.mg_of X G hg30,
    ha31,
    _,
    F31,
    B31,
    PySem.W.mg_of X G hg31,
    ha32,
    _,
    F32,
    B32,
    PySem.W.mg_of X G hg32,
    ha33,
    _,
    F33,
    B33,
    PySem.W.mg_of X G hg33,
    ha34,
    _,
    F34,
    B34,
    PySem.W.mg_of X G hg34,
    ha35,
    _,
    F35,
    B35,
    PySem.W.mg_of X G hg35,
    ha36,
    _,
    F36,
    B36,
    PySem.W.mg_of X G hg36,
    ha37,
    _,
    F37,
    B37,
    PySem.W.mg_of X G hg37,
    ha38,
    _,
    F38,
    B38,
    PySem.W.mg_of X G hg38,
    ha39,
    _,
    F39,
    B39,
    PySem.W.mg_of X G hg39,
    ha40,
    _,
    F40,
    B40,
    PySem.W.mg_of X G hg40,
    ha41,
    _,
    F41,
    B41,
    PySem.W.mg_of X G hg41,
    ha42,
    _,
    F42,
    B42,
    PySem.W.mg_of X G hg42,
    ha43,
    _,
    F43,
    B43,
    PySem.W.mg_of X G hg43,
    ha44,
    _,
    F44,
    B44,
    PySem.W.mg_of X G hg44,
    ha45,
    _,
    F45,
    B45,
    PySem.W.mg_of X G hg45,
    ha46,
    _,
    F46,
    B46,
    PySem.W.mg_of X G hg46,
    ha47,
    _,
    F47,
    B47,
    PySem.W.mg_of X G hg47,
    ha48,
    _,
    F48,
    B48,
    PySem.W.mg_of X G hg48,
    fa,
    _,
    F49,
    B49,
    PySem.W.mg_of X G hg49,
    c_PressError,
    PySem.W.mg_of X G gc_PressError,
    gc_PressError,
    kc_PressError,
    x_PressError,
    xb_PressError,
    xt_PressError,
    c_TooFew,
    PySem.W.mg_of X G gc_TooFew,
    gc_TooFew,
    kc_TooFew,
    x_TooFew,
    xb_TooFew,
    xt_TooFew,
    c_TooMany,
    PySem.W.mg_of X G gc_TooMany,
    gc_TooMany,
    kc_TooMany,
    x_TooMany,
    xb_TooMany,
    xt_TooMany,
    c_TooWide,
    PySem.W.mg_of X G gc_TooWide,
    gc_TooWide,
    kc_TooWide,
    x_TooWide,
    xb_TooWide,
    xt_TooWide,
    c_NoFormula,
    PySem.W.mg_of X G gc_NoFormula,
    gc_NoFormula,
    kc_NoFormula,
    x_NoFormula,
    xb_NoFormula,
    xt_NoFormula,
    c_NoName,
    PySem.W.mg_of X G gc_NoName,
    gc_NoName,
    kc_NoName,
    x_NoName,
    xb_NoName,
    xt_NoName,
    c_NoLine,
    PySem.W.mg_of X G gc_NoLine,
    gc_NoLine,
    kc_NoLine,
    x_NoLine,
    xb_NoLine,
    xt_NoLine,
    c_NoCircuit,
    PySem.W.mg_of X G gc_NoCircuit,
    gc_NoCircuit,
    kc_NoCircuit,
    x_NoCircuit,
    xb_NoCircuit,
    xt_NoCircuit,
    c_OutOfWidth,
    PySem.W.mg_of X G gc_OutOfWidth,
    gc_OutOfWidth,
    kc_OutOfWidth,
    x_OutOfWidth,
    xb_OutOfWidth,
    xt_OutOfWidth,
    c_Splits,
    PySem.W.mg_of X G gc_Splits,
    gc_Splits,
    kc_Splits,
    ⟨pg_Splits, hd_Splits, po_Splits, sa_Splits⟩,
    ⟨mk_Splits, hg0, hi0, kc_Splits⟩,
    ⟨hg1, hi1, hp1⟩,
    n_Splits_numbers,
    n_Splits_at,
    c_Heap,
    PySem.W.mg_of X G gc_Heap,
    gc_Heap,
    kc_Heap,
    ⟨pg_Heap, hd_Heap, po_Heap, sa_Heap⟩,
    ⟨mk_Heap, hg10, hi10, kc_Heap⟩,
    ⟨hg11, hi11, hp11⟩,
    ⟨hg12, hi12, hp12⟩,
    ⟨hg13, hi13, hp13⟩,
    ⟨hg14, hi14, hp14⟩,
    n_Heap_many,
    n_Heap_columns,
    c_Sheet,
    PySem.W.mg_of X G gc_Sheet,
    gc_Sheet,
    kc_Sheet,
    ⟨pg_Sheet, hd_Sheet, po_Sheet, sa_Sheet⟩,
    ⟨mk_Sheet, hg18, hi18, kc_Sheet⟩,
    ⟨hg19, hi19, hp19⟩,
    ⟨hg20, hi20, hp20⟩,
    n_Sheet_rows,
    c_Circuit,
    PySem.W.mg_of X G gc_Circuit,
    gc_Circuit,
    kc_Circuit,
    ⟨pg_Circuit, hd_Circuit, po_Circuit, sa_Circuit⟩,
    ⟨mk_Circuit, hg21, hi21, kc_Circuit⟩,
    n_Circuit_rows,
    n_Circuit_outs,
    n_Circuit_below,
    icl_Circuit,
    isp_Circuit,
    itk_Circuit,
    imr_Circuit,
    c_Plan,
    PySem.W.mg_of X G gc_Plan,
    gc_Plan,
    kc_Plan,
    ⟨pg_Plan, hd_Plan, po_Plan, sa_Plan⟩,
    ⟨mk_Plan, hg22, hi22, kc_Plan⟩,
    ⟨hg23, hi23, hp23⟩,
    n_Plan_sheet,
    n_Plan_widths,
    n_Plan_order,
    n_Plan_splits,
    ehd_PressError,
    ehd_TooFew,
    ehd_TooMany,
    ehd_TooWide,
    ega_TooWide,
    egg_TooWide,
    ecl_TooWide,
    esp_TooWide,
    etk_TooWide,
    emr_TooWide,
    sv_TooWide,
    (kit_ve sv_TooWide),
    s_TooWide_PressError,
    (kit_sub ehd_PressError xt_PressError s_TooWide_TooWide s_TooWide_PressError),
    s_TooWide_TooFew,
    (kit_sub ehd_TooFew xt_TooFew s_TooWide_TooWide s_TooWide_TooFew),
    s_TooWide_TooMany,
    (kit_sub ehd_TooMany xt_TooMany s_TooWide_TooWide s_TooWide_TooMany),
    s_TooWide_TooWide,
    (kit_sub ehd_TooWide xt_TooWide s_TooWide_TooWide s_TooWide_TooWide),
    (PySem.W.exm_ref xb_TooWide ehd_TooWide xt_TooWide s_TooWide_TooWide),
    s_TooWide_NoFormula,
    (kit_sub ehd_NoFormula xt_NoFormula s_TooWide_TooWide s_TooWide_NoFormula),
    s_TooWide_NoName,
    (kit_sub ehd_NoName xt_NoName s_TooWide_TooWide s_TooWide_NoName),
    (PySem.W.exm_ref xb_NoName ehd_NoName xt_NoName s_TooWide_NoName),
    s_TooWide_NoLine,
    (kit_sub ehd_NoLine xt_NoLine s_TooWide_TooWide s_TooWide_NoLine),
    s_TooWide_NoCircuit,
    (kit_sub ehd_NoCircuit xt_NoCircuit s_TooWide_TooWide s_TooWide_NoCircuit),
    s_TooWide_OutOfWidth,
    (kit_sub ehd_OutOfWidth xt_OutOfWidth s_TooWide_TooWide s_TooWide_OutOfWidth),
    ehd_NoFormula,
    ehd_NoName,
    ega_NoName,
    egg_NoName,
    ecl_NoName,
    esp_NoName,
    etk_NoName,
    emr_NoName,
    sv_NoName,
    (kit_ve sv_NoName),
    s_NoName_PressError,
    (kit_sub ehd_PressError xt_PressError s_NoName_NoName s_NoName_PressError),
    s_NoName_TooFew,
    (kit_sub ehd_TooFew xt_TooFew s_NoName_NoName s_NoName_TooFew),
    s_NoName_TooMany,
    (kit_sub ehd_TooMany xt_TooMany s_NoName_NoName s_NoName_TooMany),
    s_NoName_TooWide,
    (kit_sub ehd_TooWide xt_TooWide s_NoName_NoName s_NoName_TooWide),
    (PySem.W.exm_ref xb_TooWide ehd_TooWide xt_TooWide s_NoName_TooWide),
    s_NoName_NoFormula,
    (kit_sub ehd_NoFormula xt_NoFormula s_NoName_NoName s_NoName_NoFormula),
    s_NoName_NoName,
    (kit_sub ehd_NoName xt_NoName s_NoName_NoName s_NoName_NoName),
    (PySem.W.exm_ref xb_NoName ehd_NoName xt_NoName s_NoName_NoName),
    s_NoName_NoLine,
    (kit_sub ehd_NoLine xt_NoLine s_NoName_NoName s_NoName_NoLine),
    s_NoName_NoCircuit,
    (kit_sub ehd_NoCircuit xt_NoCircuit s_NoName_NoName s_NoName_NoCircuit),
    s_NoName_OutOfWidth,
    (kit_sub ehd_OutOfWidth xt_OutOfWidth s_NoName_NoName s_NoName_OutOfWidth),
    ehd_NoLine,
    ehd_NoCircuit,
    ehd_OutOfWidth,
    PySem.W.mg_none_of X G z_abs,
    PySem.W.mg_none_of X G z_bool,
    PySem.W.mg_none_of X G z_enumerate,
    PySem.W.mg_none_of X G z_int,
    PySem.W.mg_none_of X G z_isinstance,
    PySem.W.mg_none_of X G z_len,
    PySem.W.mg_none_of X G z_list,
    PySem.W.mg_none_of X G z_max,
    PySem.W.mg_none_of X G z_min,
    PySem.W.mg_none_of X G z_range,
    PySem.W.mg_none_of X G z_str,
    PySem.W.mg_none_of X G z_sum,
    PySem.W.mg_none_of X G z_tuple,
    tk_ROOM,
    PySem.W.mg_of X G gk_ROOM⟩
  exact ⟨T.d_law, fun s v => .of_eq rfl, fun base _ _ => ok_law T⟩
end Dpr
open PySem PySem.W PyProof.Rows
set_option maxHeartbeats 0 in
theorem PySem.Challenge.cw_dotpress_k42_what_is_not_made_holds : PySem.Challenge.rw_dotpress_k42_what_is_not_made.Holds := by
  w_on; o_law; k_head; (case hw => w_witness2)
  k_fill
  refine L2.walk_ofB (l := PySem.Challenge.rw_dotpress_k42_what_is_not_made) (n := 63) (k := 173) (x := "_law_script") (CX := fun _ => L2.CX0) (sp := fun w => Dpr.sp_law _) rfl (by decide) rfl ⟨rfl, by decide, by decide⟩ (fun w h Y => PySem.W.kIn_of Y) ?F (fun w H a ns hl hb hO hS => Dpr.end_sp_law hl hb hO hS) (fun _ _ _ _ _ h => h)
  case F =>
    intro w mg fa h KX G hmg
    refine' Dpr.all_mk KX G hmg ?hg0 ?hi0 ?hl0 ?hk0 ?hp0 ?hg1 ?hi1 ?hl1 ?hk1 ?hp1 ?hg2 ?hl2 ?hk2 ?hp2 ?hg3 ?hl3 ?hk3 ?hp3 ?hg4 ?hl4 ?hk4 ?hp4 ?hg5 ?hl5 ?hk5 ?hp5 ?hg6 ?hl6 ?hk6 ?hp6 ?hg7 ?hl7 ?hk7 ?hp7 ?hg8 ?hl8 ?hk8 ?hp8 ?hg9 ?hl9 ?hk9 ?hp9 ?hg10 ?hi10 ?hl10 ?hk10 ?hp10 ?hg11 ?hi11 ?hl11 ?hk11 ?hp11 ?hg12 ?hi12 ?hl12 ?hk12 ?hp12 ?hg13 ?hi13 ?hl13 ?hk13 ?hp13 ?hg14 ?hi14 ?hl14 ?hk14 ?hp14 ?hg15 ?hl15 ?hk15 ?hp15 ?hg16 ?hl16 ?hk16 ?hp16 ?hg17 ?hl17 ?hk17 ?hp17 ?hg18 ?hi18 ?hl18 ?hk18 ?hp18 ?hg19 ?hi19 ?hl19 ?hk19 ?hp19 ?hg20 ?hi20 ?hl20 ?hk20 ?hp20 ?hg21 ?hi21 ?hl21 ?hk21 ?hp21 ?hg22 ?hi22 ?hl22 ?hk22 ?hp22 ?hg23 ?hi23 ?hl23 ?hk23 ?hp23 ?hg24 ?hl24 ?hk24 ?hp24 ?hg25 ?hl25 ?hk25 ?hp25 ?hg26 ?hl26 ?hk26 ?hp26 ?hg27 ?hl27 ?hk27 ?hp27 ?hg28 ?hl28 ?hk28 ?hp28 ?hg29 ?hl29 ?hk29 ?hp29 ?hg30 ?hl30 ?ht30 ?hk30 ?hp30 ?hg31 ?hl31 ?hk31 ?hp31 ?hg32 ?hl32 ?hk32 ?hp32 ?hg33 ?hl33 ?hk33 ?hp33 ?hg34 ?hl34 ?hk34 ?hp34 ?hg35 ?hl35 ?hk35 ?hp35 ?hg36 ?hl36 ?hk36 ?hp36 ?hg37 ?hl37 ?hk37 ?hp37 ?hg38 ?hl38 ?hk38 ?hp38 ?hg39 ?hl39 ?hk39 ?hp39 ?hg40 ?hl40 ?hk40 ?hp40 ?hg41 ?hl41 ?hk41 ?hp41 ?hg42 ?hl42 ?hk42 ?hp42 ?hg43 ?hl43 ?hk43 ?hp43 ?hg44 ?hl44 ?hk44 ?hp44 ?hg45 ?hl45 ?hk45 ?hp45 ?hg46 ?hl46 ?hk46 ?hp46 ?hg47 ?hl47 ?hk47 ?hp47 ?hg48 ?hl48 ?hk48 ?hp48 ?hg49 ?hl49 ?hk49 ?hp49 ?gc_PressError ?kc_PressError ?x_PressError ?xb_PressError ?xt_PressError ?ehd_PressError ?gc_TooFew ?kc_TooFew ?x_TooFew ?xb_TooFew ?xt_TooFew ?ehd_TooFew ?gc_TooMany ?kc_TooMany ?x_TooMany ?xb_TooMany ?xt_TooMany ?ehd_TooMany ?gc_TooWide ?kc_TooWide ?x_TooWide ?xb_TooWide ?xt_TooWide ?ehd_TooWide ?ega_TooWide ?egg_TooWide ?ecl_TooWide ?esp_TooWide ?etk_TooWide ?emr_TooWide ?sv_TooWide ?s_TooWide_PressError ?s_TooWide_TooFew ?s_TooWide_TooMany ?s_TooWide_TooWide ?s_TooWide_NoFormula ?s_TooWide_NoName ?s_TooWide_NoLine ?s_TooWide_NoCircuit ?s_TooWide_OutOfWidth ?gc_NoFormula ?kc_NoFormula ?x_NoFormula ?xb_NoFormula ?xt_NoFormula ?ehd_NoFormula ?gc_NoName ?kc_NoName ?x_NoName ?xb_NoName ?xt_NoName ?ehd_NoName ?ega_NoName ?egg_NoName ?ecl_NoName ?esp_NoName ?etk_NoName ?emr_NoName ?sv_NoName ?s_NoName_PressError ?s_NoName_TooFew ?s_NoName_TooMany ?s_NoName_TooWide ?s_NoName_NoFormula ?s_NoName_NoName ?s_NoName_NoLine ?s_NoName_NoCircuit ?s_NoName_OutOfWidth ?gc_NoLine ?kc_NoLine ?x_NoLine ?xb_NoLine ?xt_NoLine ?ehd_NoLine ?gc_NoCircuit ?kc_NoCircuit ?x_NoCircuit ?xb_NoCircuit ?xt_NoCircuit ?ehd_NoCircuit ?gc_OutOfWidth ?kc_OutOfWidth ?x_OutOfWidth ?xb_OutOfWidth ?xt_OutOfWidth ?ehd_OutOfWidth ?gc_Splits ?kc_Splits ?pg_Splits ?hd_Splits ?po_Splits ?sa_Splits ?mk_Splits ?n_Splits_numbers ?n_Splits_at ?gc_Heap ?kc_Heap ?pg_Heap ?hd_Heap ?po_Heap ?sa_Heap ?mk_Heap ?n_Heap_many ?n_Heap_columns ?gc_Sheet ?kc_Sheet ?pg_Sheet ?hd_Sheet ?po_Sheet ?sa_Sheet ?mk_Sheet ?n_Sheet_rows ?gc_Circuit ?kc_Circuit ?pg_Circuit ?hd_Circuit ?po_Circuit ?sa_Circuit ?mk_Circuit ?icl_Circuit ?isp_Circuit ?itk_Circuit ?imr_Circuit ?n_Circuit_rows ?n_Circuit_outs ?n_Circuit_below ?gc_Plan ?kc_Plan ?pg_Plan ?hd_Plan ?po_Plan ?sa_Plan ?mk_Plan ?n_Plan_sheet ?n_Plan_widths ?n_Plan_order ?n_Plan_splits ?z_abs ?z_bool ?z_enumerate ?z_int ?z_isinstance ?z_len ?z_list ?z_max ?z_min ?z_range ?z_str ?z_sum ?z_tuple ?gk_ROOM
    (case gc_PressError => k_is)
    (case gc_TooFew => k_is)
    (case gc_TooMany => k_is)
    (case gc_TooWide => k_is)
    (case gc_NoFormula => k_is)
    (case gc_NoName => k_is)
    (case gc_NoLine => k_is)
    (case gc_NoCircuit => k_is)
    (case gc_OutOfWidth => k_is)
    (case gc_Splits => k_is)
    (case gc_Heap => k_is)
    (case gc_Sheet => k_is)
    (case gc_Circuit => k_is)
    (case gc_Plan => k_is)
    (case hg0 => k_is)
    (case hi0 => k_is)
    (case hl0 => k_is)
    (case hk0 => k_is)
    (case hp0 => k_is)
    (case hg1 => k_is)
    (case hi1 => k_is)
    (case hl1 => k_is)
    (case hk1 => k_is)
    (case hp1 => k_is)
    (case hg2 => k_is)
    (case hl2 => k_is)
    (case hk2 => k_is)
    (case hp2 => k_is)
    (case hg3 => k_is)
    (case hl3 => k_is)
    (case hk3 => k_is)
    (case hp3 => k_is)
    (case hg4 => k_is)
    (case hl4 => k_is)
    (case hk4 => k_is)
    (case hp4 => k_is)
    (case hg5 => k_is)
    (case hl5 => k_is)
    (case hk5 => k_is)
    (case hp5 => k_is)
    (case hg6 => k_is)
    (case hl6 => k_is)
    (case hk6 => k_is)
    (case hp6 => k_is)
    (case hg7 => k_is)
    (case hl7 => k_is)
    (case hk7 => k_is)
    (case hp7 => k_is)
    (case hg8 => k_is)
    (case hl8 => k_is)
    (case hk8 => k_is)
    (case hp8 => k_is)
    (case hg9 => k_is)
    (case hl9 => k_is)
    (case hk9 => k_is)
    (case hp9 => k_is)
    (case hg10 => k_is)
    (case hi10 => k_is)
    (case hl10 => k_is)
    (case hk10 => k_is)
    (case hp10 => k_is)
    (case hg11 => k_is)
    (case hi11 => k_is)
    (case hl11 => k_is)
    (case hk11 => k_is)
    (case hp11 => k_is)
    (case hg12 => k_is)
    (case hi12 => k_is)
    (case hl12 => k_is)
    (case hk12 => k_is)
    (case hp12 => k_is)
    (case hg13 => k_is)
    (case hi13 => k_is)
    (case hl13 => k_is)
    (case hk13 => k_is)
    (case hp13 => k_is)
    (case hg14 => k_is)
    (case hi14 => k_is)
    (case hl14 => k_is)
    (case hk14 => k_is)
    (case hp14 => k_is)
    (case hg15 => k_is)
    (case hl15 => k_is)
    (case hk15 => k_is)
    (case hp15 => k_is)
    (case hg16 => k_is)
    (case hl16 => k_is)
    (case hk16 => k_is)
    (case hp16 => k_is)
    (case hg17 => k_is)
    (case hl17 => k_is)
    (case hk17 => k_is)
    (case hp17 => k_is)
    (case hg18 => k_is)
    (case hi18 => k_is)
    (case hl18 => k_is)
    (case hk18 => k_is)
    (case hp18 => k_is)
    (case hg19 => k_is)
    (case hi19 => k_is)
    (case hl19 => k_is)
    (case hk19 => k_is)
    (case hp19 => k_is)
    (case hg20 => k_is)
    (case hi20 => k_is)
    (case hl20 => k_is)
    (case hk20 => k_is)
    (case hp20 => k_is)
    (case hg21 => k_is)
    (case hi21 => k_is)
    (case hl21 => k_is)
    (case hk21 => k_is)
    (case hp21 => k_is)
    (case hg22 => k_is)
    (case hi22 => k_is)
    (case hl22 => k_is)
    (case hk22 => k_is)
    (case hp22 => k_is)
    (case hg23 => k_is)
    (case hi23 => k_is)
    (case hl23 => k_is)
    (case hk23 => k_is)
    (case hp23 => k_is)
    (case hg24 => k_is)
    (case hl24 => k_is)
    (case hk24 => k_is)
    (case hp24 => k_is)
    (case hg25 => k_is)
    (case hl25 => k_is)
    (case hk25 => k_is)
    (case hp25 => k_is)
    (case hg26 => k_is)
    (case hl26 => k_is)
    (case hk26 => k_is)
    (case hp26 => k_is)
    (case hg27 => k_is)
    (case hl27 => k_is)
    (case hk27 => k_is)
    (case hp27 => k_is)
    (case hg28 => k_is)
    (case hl28 => k_is)
    (case hk28 => k_is)
    (case hp28 => k_is)
    (case hg29 => k_is)
    (case hl29 => k_is)
    (case hk29 => k_is)
    (case hp29 => k_is)
    (case hg30 => k_is)
    (case hl30 => k_is)
    (case ht30 => k_is)
    (case hk30 => k_is)
    (case hp30 => k_is)
    (case hg31 => k_is)
    (case hl31 => k_is)
    (case hk31 => k_is)
    (case hp31 => k_is)
    (case hg32 => k_is)
    (case hl32 => k_is)
    (case hk32 => k_is)
    (case hp32 => k_is)
    (case hg33 => k_is)
    (case hl33 => k_is)
    (case hk33 => k_is)
    (case hp33 => k_is)
    (case hg34 => k_is)
    (case hl34 => k_is)
    (case hk34 => k_is)
    (case hp34 => k_is)
    (case hg35 => k_is)
    (case hl35 => k_is)
    (case hk35 => k_is)
    (case hp35 => k_is)
    (case hg36 => k_is)
    (case hl36 => k_is)
    (case hk36 => k_is)
    (case hp36 => k_is)
    (case hg37 => k_is)
    (case hl37 => k_is)
    (case hk37 => k_is)
    (case hp37 => k_is)
    (case hg38 => k_is)
    (case hl38 => k_is)
    (case hk38 => k_is)
    (case hp38 => k_is)
    (case hg39 => k_is)
    (case hl39 => k_is)
    (case hk39 => k_is)
    (case hp39 => k_is)
    (case hg40 => k_is)
    (case hl40 => k_is)
    (case hk40 => k_is)
    (case hp40 => k_is)
    (case hg41 => k_is)
    (case hl41 => k_is)
    (case hk41 => k_is)
    (case hp41 => k_is)
    (case hg42 => k_is)
    (case hl42 => k_is)
    (case hk42 => k_is)
    (case hp42 => k_is)
    (case hg43 => k_is)
    (case hl43 => k_is)
    (case hk43 => k_is)
    (case hp43 => k_is)
    (case hg44 => k_is)
    (case hl44 => k_is)
    (case hk44 => k_is)
    (case hp44 => k_is)
    (case hg45 => k_is)
    (case hl45 => k_is)
    (case hk45 => k_is)
    (case hp45 => k_is)
    (case hg46 => k_is)
    (case hl46 => k_is)
    (case hk46 => k_is)
    (case hp46 => k_is)
    (case hg47 => k_is)
    (case hl47 => k_is)
    (case hk47 => k_is)
    (case hp47 => k_is)
    (case hg48 => k_is)
    (case hl48 => k_is)
    (case hk48 => k_is)
    (case hp48 => k_is)
    (case hg49 => k_is)
    (case hl49 => k_is)
    (case hk49 => k_is)
    (case hp49 => k_is)
    (case kc_PressError => k_is)
    (case x_PressError => k_exc)
    (case xb_PressError => k_is)
    (case xt_PressError => k_is)
    (case ehd_PressError => k_is)
    (case kc_TooFew => k_is)
    (case x_TooFew => k_exc)
    (case xb_TooFew => k_is)
    (case xt_TooFew => k_is)
    (case ehd_TooFew => k_is)
    (case kc_TooMany => k_is)
    (case x_TooMany => k_exc)
    (case xb_TooMany => k_is)
    (case xt_TooMany => k_is)
    (case ehd_TooMany => k_is)
    (case kc_TooWide => k_is)
    (case x_TooWide => k_exc)
    (case xb_TooWide => k_is)
    (case xt_TooWide => k_is)
    (case ehd_TooWide => k_is)
    (case ega_TooWide => k_is)
    (case egg_TooWide => k_is)
    (case ecl_TooWide => k_is)
    (case esp_TooWide => k_is)
    (case etk_TooWide => k_is)
    (case emr_TooWide => k_is)
    (case sv_TooWide => k_is)
    (case s_TooWide_PressError => k_is)
    (case s_TooWide_TooFew => k_is)
    (case s_TooWide_TooMany => k_is)
    (case s_TooWide_TooWide => k_is)
    (case s_TooWide_NoFormula => k_is)
    (case s_TooWide_NoName => k_is)
    (case s_TooWide_NoLine => k_is)
    (case s_TooWide_NoCircuit => k_is)
    (case s_TooWide_OutOfWidth => k_is)
    (case kc_NoFormula => k_is)
    (case x_NoFormula => k_exc)
    (case xb_NoFormula => k_is)
    (case xt_NoFormula => k_is)
    (case ehd_NoFormula => k_is)
    (case kc_NoName => k_is)
    (case x_NoName => k_exc)
    (case xb_NoName => k_is)
    (case xt_NoName => k_is)
    (case ehd_NoName => k_is)
    (case ega_NoName => k_is)
    (case egg_NoName => k_is)
    (case ecl_NoName => k_is)
    (case esp_NoName => k_is)
    (case etk_NoName => k_is)
    (case emr_NoName => k_is)
    (case sv_NoName => k_is)
    (case s_NoName_PressError => k_is)
    (case s_NoName_TooFew => k_is)
    (case s_NoName_TooMany => k_is)
    (case s_NoName_TooWide => k_is)
    (case s_NoName_NoFormula => k_is)
    (case s_NoName_NoName => k_is)
    (case s_NoName_NoLine => k_is)
    (case s_NoName_NoCircuit => k_is)
    (case s_NoName_OutOfWidth => k_is)
    (case kc_NoLine => k_is)
    (case x_NoLine => k_exc)
    (case xb_NoLine => k_is)
    (case xt_NoLine => k_is)
    (case ehd_NoLine => k_is)
    (case kc_NoCircuit => k_is)
    (case x_NoCircuit => k_exc)
    (case xb_NoCircuit => k_is)
    (case xt_NoCircuit => k_is)
    (case ehd_NoCircuit => k_is)
    (case kc_OutOfWidth => k_is)
    (case x_OutOfWidth => k_exc)
    (case xb_OutOfWidth => k_is)
    (case xt_OutOfWidth => k_is)
    (case ehd_OutOfWidth => k_is)
    (case kc_Splits => k_is)
    (case pg_Splits => k_is)
    (case hd_Splits => k_is)
    (case po_Splits => k_is)
    (case sa_Splits => k_is)
    (case mk_Splits => k_is)
    (case n_Splits_numbers => k_is)
    (case n_Splits_at => k_is)
    (case kc_Heap => k_is)
    (case pg_Heap => k_is)
    (case hd_Heap => k_is)
    (case po_Heap => k_is)
    (case sa_Heap => k_is)
    (case mk_Heap => k_is)
    (case n_Heap_many => k_is)
    (case n_Heap_columns => k_is)
    (case kc_Sheet => k_is)
    (case pg_Sheet => k_is)
    (case hd_Sheet => k_is)
    (case po_Sheet => k_is)
    (case sa_Sheet => k_is)
    (case mk_Sheet => k_is)
    (case n_Sheet_rows => k_is)
    (case kc_Circuit => k_is)
    (case pg_Circuit => k_is)
    (case hd_Circuit => k_is)
    (case po_Circuit => k_is)
    (case sa_Circuit => k_is)
    (case mk_Circuit => k_is)
    (case icl_Circuit => k_is)
    (case isp_Circuit => k_is)
    (case itk_Circuit => k_is)
    (case imr_Circuit => k_is)
    (case n_Circuit_rows => k_is)
    (case n_Circuit_outs => k_is)
    (case n_Circuit_below => k_is)
    (case kc_Plan => k_is)
    (case pg_Plan => k_is)
    (case hd_Plan => k_is)
    (case po_Plan => k_is)
    (case sa_Plan => k_is)
    (case mk_Plan => k_is)
    (case n_Plan_sheet => k_is)
    (case n_Plan_widths => k_is)
    (case n_Plan_order => k_is)
    (case n_Plan_splits => k_is)
    (case z_abs => k_is)
    (case z_bool => k_is)
    (case z_enumerate => k_is)
    (case z_int => k_is)
    (case z_isinstance => k_is)
    (case z_len => k_is)
    (case z_list => k_is)
    (case z_max => k_is)
    (case z_min => k_is)
    (case z_range => k_is)
    (case z_str => k_is)
    (case z_sum => k_is)
    (case z_tuple => k_is)
    (case gk_ROOM => k_is)


