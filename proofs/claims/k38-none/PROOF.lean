import PyProof.Rows.All
import Wide.All
import OpenK.AllK
import Wide.FinOn
import HandS.ForMost
import HandS.IsInst
import HandS.WideBits
import HandS.Wide
import HandS.EndBits
import HandS.Evl
import HandS.More
import HandS.DictComp
import HandS.RevRange
import HandS.DeepEq
import HandS.ListEq
import HandS.Deep
import HandS.ForExc
import HandS.ExcIs
import HandS.RaiseMore
import PySem.Challenge.RW_dotpress_k38_texts_that_write_none
set_option Elab.async false
set_option linter.all false
set_option maxRecDepth 100000
set_option maxHeartbeats 4000000


namespace Dpr
open PySem PySem.Spec PyProof.Rows L2
/-! ### steps of a reading, one a construct -/
section
variable {K : PySem.W.Frag} {D : Ends} {σ : L2.St} {H : Hp} {Q : VK} {QB : Bool → Hp → Prop} {QA : List V → Hp → Prop} {ta tb tc te : TE} {t u : TS} {c : TT} {g : TG} {r r' : R2} {v x y : V}
theorem w_seq (h : t { D with nx := u D } σ H) : tSeq t u D σ H := h
theorem w_cut (M : L2.St → Hp → Prop) (h : t { D with nx := M } σ H) (k : ∀ σ' H', M σ' H' → u D σ' H') : Evl.tCut t u D σ H := ⟨M, h, k⟩
theorem w_asg {i : Nat} (h : te σ H fun v H1 => D.nx (σ.set i (some v)) H1) : tAsg te (gName i) D σ H := h
theorem w_asgG (h : te σ H fun v H1 => g v σ H1 D.nx) : tAsg te g D σ H := h
theorem w_drop (h : te σ H fun _ H1 => D.nx σ H1) : tDrop te D σ H := h
theorem w_ret (h : te σ H D.rt) : tRet te D σ H := h
theorem w_retN (h : D.rt .non H) : tRetN D σ H := h
theorem w_next (h : D.nx σ H) : tNext D σ H := h
theorem w_cont (h : D.ct σ H) : tCont D σ H := h
theorem w_brk (h : D.bk σ H) : tBreak D σ H := h
theorem w_if (h : c σ H fun b H1 => if b = true then t D σ H1 else u D σ H1) : tIfS c t u D σ H := h
theorem w_aug {i : Nat} {ti : TIp} (hx : σ[i]? = some (some x)) (h : te σ H fun y H1 => ti x y H1 fun z H2 => D.nx (σ.set i (some z)) H2) : tAug i te ti D σ H := ⟨x, hx, h⟩
theorem w_ipI {f : Int → Int → Int} {i j : Int} (h : Q (.int (f i j)) H) : ipI f (.int i) (.int j) H Q := ⟨i, j, rfl, rfl, h⟩
theorem w_var {i : Nat} (hx : σ[i]? = some (some v)) (h : Q v H) : tVar i σ H Q := ⟨v, hx, h⟩
theorem w_c (h : Q v H) : tC v σ H Q := h
theorem w_op (h : ta σ H fun x H1 => tb σ H1 fun y H2 => r x y H2 Q) : tOp r ta tb σ H Q := h
theorem w_un {f : V → Hp → VK → Prop} (h : ta σ H fun x H1 => f x H1 Q) : tUn f ta σ H Q := h
theorem w_chain (h : ta σ H fun x H1 => tb σ H1 fun y H2 => r x y H2 fun z H3 => ∃ k, z = .bl k ∧ (if k = true then tc σ H3 fun w' H4 => r' y w' H4 Q else Q (.bl false) H3)) : tChain r r' ta tb tc σ H Q := h
theorem w_test (h : te σ H fun x H1 => ∃ k, x = .bl k ∧ QB k H1) : tTest te σ H QB := h
theorem w_tB (h : te σ H fun x H1 => ∃ k, x = .bl k ∧ QB k H1) : tB te σ H QB := h
theorem w_bl {b : Bool} {P : Bool → Prop} (h : P b) : ∃ k, V.bl b = .bl k ∧ P k := ⟨b, rfl, h⟩
theorem w_and {t u : TT} (h : t σ H fun c H1 => if c = true then u σ H1 QB else QB false H1) : tAnd t u σ H QB := h
theorem w_or {t u : TT} (h : t σ H fun c H1 => if c = true then QB true H1 else u σ H1 QB) : tOr t u σ H QB := h
theorem w_not {t : TT} (h : t σ H fun c H1 => QB (!c) H1) : tNot t σ H QB := h
theorem w_andV (h : ta σ H fun x H1 => ∃ c, x = .bl c ∧ if c = true then tb σ H1 Q else Q (.bl false) H1) : tAndV ta tb σ H Q := h
theorem w_orV (h : ta σ H fun x H1 => ∃ c, x = .bl c ∧ if c = true then Q (.bl true) H1 else tb σ H1 Q) : tOrV ta tb σ H Q := h
theorem w_notV (h : ta σ H fun x H1 => ∃ c, x = .bl c ∧ Q (.bl (!c)) H1) : tNotV ta σ H Q := h
theorem w_ifx {t : TT} (h : t σ H fun c H1 => if c = true then ta σ H1 Q else tb σ H1 Q) : tIf t ta tb σ H Q := h
theorem w_nil (h : QA [] H) : tNil σ H QA := h
theorem w_cons {tr : TA} (h : ta σ H fun x H1 => tr σ H1 fun xs H2 => QA (x :: xs) H2) : tCons ta tr σ H QA := h
/-- a new tuple, a new list: the heap is a letter -/
def AlT (xs : List V) (H : Hp) (Q : VK) : Prop := xs.length ≤ sizeLine ∧ ∀ p, H p = none → Q (.ref p) (upd H p (.tup xs))
def AlL (xs : List V) (H : Hp) (Q : VK) : Prop := xs.length ≤ sizeLine ∧ ∀ p, H p = none → Q (.ref p) (upd H p (.lst xs))
theorem same_upd {H : Hp} {p : Addr} {o : HO} (h : H p = none) : Same H (upd H p o) := fun b x e => by
  rw [upd_ne (ne_of_none e h)]
  exact e
theorem w_tup {s : TA} (h : s σ H fun xs H1 => AlT xs H1 Q) : tTup s σ H Q := h
theorem w_lst {s : TA} (h : s σ H fun xs H1 => AlL xs H1 Q) : tLst s σ H Q := h
theorem sz_le {n : Nat} (h : Nat.ble n 1000 = true) : n ≤ sizeLine := Nat.le_trans (Nat.le_of_ble_eq_true h) (by rw [sizeLine_eq]; decide)
theorem w_alT {xs : List V} (hl : xs.length ≤ sizeLine) (h : ∀ p H', H p = none → Same H H' → H' p = some (.tup xs) → Q (.ref p) H') : AlT xs H Q := ⟨hl, fun p hp => h p _ hp (same_upd hp) upd_same⟩
theorem w_alL {xs : List V} (hl : xs.length ≤ sizeLine) (h : ∀ p H', H p = none → Same H H' → H' p = some (.lst xs) → Q (.ref p) H') : AlL xs H Q := ⟨hl, fun p hp => h p _ hp (same_upd hp) upd_same⟩
theorem w_call {sp : Sp} {dvs : List V} {E : XK} {s : TA} (h : s σ H fun vs H1 => sp (vs ++ dvs) H1 Q E) : tCall sp dvs E s σ H Q := h
theorem w_cb {f : List V → Hp → VK → Prop} {s : TA} (h : s σ H fun vs H1 => f vs H1 Q) : tCB f s σ H Q := h
theorem w_I0 {f : Int → Int → V} {i j : Int} (h : Q (f i j) H) : rI0 f (.int i) (.int j) H Q := ⟨i, j, rfl, rfl, h⟩
theorem w_I {C : Int → Int → Prop} {f : Int → Int → V} {i j : Int} (hc : C i j) (h : Q (f i j) H) : rI C f (.int i) (.int j) H Q := ⟨i, j, rfl, rfl, hc, h⟩
theorem w_U {f : Int → V} {i : Int} (h : Q (f i) H) : rU f (.int i) H Q := ⟨i, rfl, h⟩
theorem w_eq (hs : scal x y = true) (h : Q (.bl (decide (x = y))) H) : rEq x y H Q := ⟨hs, h⟩
theorem w_ne (hs : scal x y = true) (h : Q (.bl (!decide (x = y))) H) : rNe x y H Q := ⟨hs, h⟩
theorem w_bits {i : Int} (h : Q (.int (Builtin.Int.intBits i : Nat)) H) : (∃ j, V.int i = .int j ∧ Q (.int (Builtin.Int.intBits j : Nat)) H) := ⟨i, rfl, h⟩
theorem w_tbits (h : te σ H fun x H1 => ∃ i, x = .int i ∧ Q (.int (Builtin.Int.intBits i : Nat)) H1) : tBits te σ H Q := h
theorem w_ixL {p : Addr} {xs : List V} {i : Int} (hl : SqL K H p xs) (ha : atI xs i = some v) (h : Q v H) : rIxL K (.ref p) (.int i) H Q := ⟨p, xs, i, v, rfl, rfl, hl, ha, h⟩
theorem w_ixT {p : Addr} {xs : List V} {i : Int} (hl : SqT K H p xs) (ha : atI xs i = some v) (h : Q v H) : rIxT K (.ref p) (.int i) H Q := ⟨p, xs, i, v, rfl, rfl, hl, ha, h⟩
/-! tests -/
theorem w_itT {A B : Prop} (h : A) : if true = true then A else B := by rw [if_pos rfl]; exact h
theorem w_itF {A B : Prop} (h : B) : if false = true then A else B := by rw [if_neg Bool.false_ne_true]; exact h
theorem w_itC {b : Bool} {A B : Prop} (e : b = true) (h : A) : if b = true then A else B := by rw [if_pos e]; exact h
theorem w_itD {b : Bool} {A B : Prop} (e : b = false) (h : B) : if b = true then A else B := by rw [e, if_neg Bool.false_ne_true]; exact h
theorem w_itI {i j : Int} {A B : Prop} (h1 : i = j → A) (h2 : i ≠ j → B) : if decide (V.int i = V.int j) = true then A else B := by
  by_cases e : i = j
  · rw [if_pos (by rw [e]; exact decide_eq_true rfl)]; exact h1 e
  · rw [if_neg (fun z => e (V.int.inj (of_decide_eq_true z)))]; exact h2 e
theorem w_itN {i j : Int} {A B : Prop} (h1 : i ≠ j → A) (h2 : i = j → B) : if (!decide (V.int i = V.int j)) = true then A else B := by
  by_cases e : i = j
  · rw [e, decide_eq_true rfl]; exact w_itF (h2 e)
  · rw [decide_eq_false (fun z => e (V.int.inj z))]; exact w_itT (h1 e)
theorem w_itd {p A B : Prop} [Decidable p] (h1 : p → A) (h2 : ¬ p → B) : if decide p = true then A else B := by
  by_cases e : p
  · rw [if_pos (decide_eq_true e)]; exact h1 e
  · rw [if_neg (fun z => e (of_decide_eq_true z))]; exact h2 e
theorem w_itn {p A B : Prop} [Decidable p] (h1 : ¬ p → A) (h2 : p → B) : if (!decide p) = true then A else B := by
  by_cases e : p
  · rw [decide_eq_true e]; exact w_itF (h2 e)
  · rw [decide_eq_false e]; exact w_itT (h1 e)
theorem w_itb {b : Bool} {A B : Prop} (h1 : b = true → A) (h2 : b = false → B) : if b = true then A else B := by
  cases b with
  | true => exact w_itT (h1 rfl)
  | false => exact w_itF (h2 rfl)
end
/-! calls of built-ins, by names of our own -/
def rLen (K : PySem.W.Frag) : List V → Hp → VK → Prop := fun xs H Q => ∃ p ys, xs = [.ref p] ∧ (SqL K H p ys ∨ SqT K H p ys) ∧ Q (.int ys.length) H
theorem c_len {X : Cx} : CallR X (.builtin "len") (rLen X.K) := call_len_seq
theorem w_lenL {K : PySem.W.Frag} {H : Hp} {Q : VK} {p : Addr} {xs : List V} (h : SqL K H p xs) (q : Q (.int (xs.length : Int)) H) : rLen K [.ref p] H Q := ⟨p, xs, rfl, .inl h, q⟩
theorem w_lenT {K : PySem.W.Frag} {H : Hp} {Q : VK} {p : Addr} {xs : List V} (h : SqT K H p xs) (q : Q (.int (xs.length : Int)) H) : rLen K [.ref p] H Q := ⟨p, xs, rfl, .inr h, q⟩
def rAbs : List V → Hp → VK → Prop := fun xs H Q => ∃ i, xs = [.int i] ∧ Q (.int (if i < 0 then -i else i)) H
theorem c_abs {X : Cx} : CallR X (.builtin "abs") rAbs := call_abs
theorem w_abs {H : Hp} {Q : VK} {i : Int} (q : Q (.int (if i < 0 then -i else i)) H) : rAbs [.int i] H Q := ⟨i, rfl, q⟩
def rMax2 : List V → Hp → VK → Prop := fun xs H Q => ∃ i j, xs = [.int i, .int j] ∧ Q (.int (if j > i then j else i)) H
def rMin2 : List V → Hp → VK → Prop := fun xs H Q => ∃ i j, xs = [.int i, .int j] ∧ Q (.int (if j < i then j else i)) H
theorem c_max2 {X : Cx} (hc : X.calm = true) : CallR X (.builtin "max") rMax2 := call_max2 hc
theorem c_min2 {X : Cx} (hc : X.calm = true) : CallR X (.builtin "min") rMin2 := call_min2 hc
theorem w_max2 {H : Hp} {Q : VK} {i j : Int} (q : Q (.int (if j > i then j else i)) H) : rMax2 [.int i, .int j] H Q := ⟨i, j, rfl, q⟩
theorem w_min2 {H : Hp} {Q : VK} {i j : Int} (q : Q (.int (if j < i then j else i)) H) : rMin2 [.int i, .int j] H Q := ⟨i, j, rfl, q⟩
def rListOf (K : PySem.W.Frag) : List V → Hp → VK → Prop := fun xs H Q => ∃ p ys, xs = [.ref p] ∧ (SqL K H p ys ∨ SqT K H p ys) ∧ ∀ l, H l = none → Q (.ref l) (upd H l (.lst ys))
theorem c_list {X : Cx} : CallR X (.type "list") (rListOf X.K) := call_list_of
theorem w_listL {K : PySem.W.Frag} {H : Hp} {Q : VK} {p : Addr} {xs : List V} (h : SqL K H p xs) (q : ∀ l H', H l = none → Same H H' → H' l = some (.lst xs) → Q (.ref l) H') : rListOf K [.ref p] H Q := ⟨p, xs, rfl, .inl h, fun l hl => q l _ hl (same_upd hl) upd_same⟩
theorem w_listT {K : PySem.W.Frag} {H : Hp} {Q : VK} {p : Addr} {xs : List V} (h : SqT K H p xs) (q : ∀ l H', H l = none → Same H H' → H' l = some (.lst xs) → Q (.ref l) H') : rListOf K [.ref p] H Q := ⟨p, xs, rfl, .inr h, fun l hl => q l _ hl (same_upd hl) upd_same⟩
/-- a product of two ints of any size that the model allows -/
theorem op_mulI {X : Cx} : OpR X (binaryOp .Mult) (rI IntMulOk fun i j => .int (i * j)) := opI fun _ _ _ _ _ _ _ hc q => mul_int q hc
/-- isinstance, the answer told -/
theorem w_isi {K : PySem.W.Frag} {H : Hp} {Q : VK} {x : V} {t : Value} {n : String} {b : Bool} (ty : TyX K H x t) (e : PySem.W.kitOne K t (.type n) = some b) (q : Q (.bl b) H) : rIsi K [x, .ty n] H Q := ⟨x, .ty n, t, _, b, rfl, .ty n, ty, e, q⟩
theorem kit_ii (K : PySem.W.Frag) : PySem.W.kitOne K (.type "int") (.type "int") = some true := kit_ty (by decide +kernel)
theorem kit_ib (K : PySem.W.Frag) : PySem.W.kitOne K (.type "int") (.type "bool") = some false := kit_ty (by decide +kernel)
theorem kit_bi (K : PySem.W.Frag) : PySem.W.kitOne K (.type "bool") (.type "int") = some true := kit_ty (by decide +kernel)
theorem kit_bb (K : PySem.W.Frag) : PySem.W.kitOne K (.type "bool") (.type "bool") = some true := kit_ty (by decide +kernel)
theorem kit_ll (K : PySem.W.Frag) : PySem.W.kitOne K (.type "list") (.type "list") = some true := kit_ty (by decide +kernel)
theorem kit_tt (K : PySem.W.Frag) : PySem.W.kitOne K (.type "tuple") (.type "tuple") = some true := kit_ty (by decide +kernel)
theorem kit_ss (K : PySem.W.Frag) : PySem.W.kitOne K (.type "str") (.type "str") = some true := kit_ty (by decide +kernel)
theorem w_isiT {K : PySem.W.Frag} {H : Hp} {Q : VK} {p : Addr} {xs : List V} (e : H p = some (.tup xs)) (q : Q (.bl true) H) : rIsi K [.ref p, .ty "tuple"] H Q := w_isi (TyX.base (TyOf.tup e)) (kit_tt K) q
theorem w_isiL {K : PySem.W.Frag} {H : Hp} {Q : VK} {p : Addr} {xs : List V} (e : H p = some (.lst xs)) (q : Q (.bl true) H) : rIsi K [.ref p, .ty "list"] H Q := w_isi (TyX.base (TyOf.lst e)) (kit_ll K) q
theorem kit_tl (K : PySem.W.Frag) : PySem.W.kitOne K (.type "tuple") (.type "list") = some false := kit_ty (by decide +kernel)
theorem kit_lt (K : PySem.W.Frag) : PySem.W.kitOne K (.type "list") (.type "tuple") = some false := kit_ty (by decide +kernel)
/-! slices and sums of lists -/
section
variable {K : PySem.W.Frag} {σ : L2.St} {H : Hp} {Q : VK} {te : TE} {tl th : TO} {QO : Option Int → Hp → Prop}
theorem w_tsl {f : V → Option Int → Option Int → Hp → VK → Prop} (h : te σ H fun x H1 => tl σ H1 fun l H2 => th σ H2 fun u H3 => f x l u H3 Q) : tSl f te tl th σ H Q := h
theorem w_tnp (h : QO none H) : tNoPart σ H QO := h
theorem w_tpt (h : te σ H fun x H1 => ∃ i, x = .int i ∧ QO (some i) H1) : tPart te σ H QO := h
theorem w_pt {i : Int} {P : Int → Prop} (h : P i) : ∃ j, V.int i = .int j ∧ P j := ⟨i, rfl, h⟩
theorem w_sl {p : Addr} {xs : List V} {lo hi : Option Int} (h : SqL K H p xs) (q : ∀ l H', H l = none → Same H H' → H' l = some (.lst (cutV xs lo hi)) → Q (.ref l) H') : rSlL K (.ref p) lo hi H Q :=
  ⟨p, xs, rfl, h, fun l hl => q l _ hl (same_upd hl) upd_same⟩
theorem w_cat {p b : Addr} {xs ys : List V} (h1 : H p = some (.lst xs)) (h2 : H b = some (.lst ys)) (hz : xs.length + ys.length ≤ 16000000) (q : ∀ l H', H l = none → Same H H' → H' l = some (.lst (xs ++ ys)) → Q (.ref l) H') : rCat (.ref p) (.ref b) H Q :=
  ⟨p, b, xs, ys, rfl, rfl, h1, h2, Nat.le_trans hz (by rw [sizeLine_eq]; decide), fun l hl => q l _ hl (same_upd hl) upd_same⟩
end
/-! heaps that grow -/
theorem same_at {H H' : Hp} {b : Addr} {o : HO} (s : Same H H') (h : H b = some o) : H' b = some o := s b o h
theorem same_tup {K : PySem.W.Frag} {H H' : Hp} {a : Addr} {xs : List V} (e : Same H H') (h : SqT K H a xs) : SqT K H' a xs := by
  rcases h with (h | ⟨o, h⟩) | h
  · exact .inl (.inl (e _ _ h))
  · exact .inl (.inr ⟨o, e _ _ h⟩)
  · exact .inr h
theorem p2pos (k : Nat) : (0 : Int) < 2 ^ k := Int.pow_pos (by decide)
/-! loops -/
section
variable {K : PySem.W.Frag} {D : Ends} {σ : L2.St} {H : Hp} {Q : VK} {ta te tl : TE} {t : TS} {g : TG} {s : TA} {wi : TI} {tt : TT} {vs : List Nat}
def ForB (J : It) (g : TG) (t : TS) (D : Ends) (σ : L2.St) (H : Hp) : Prop := ∃ W : Nat → Nat → L2.St → Hp → Prop, (∃ m, W 0 m σ H) ∧ ∀ i m σ H, W i m σ H →
  (J.stop i H ∧ D.nx σ H) ∨ (J.go i H ∧ ∃ N : L2.St → Hp → Prop, (∀ σ' H', N σ' H' → ∃ m', m' < m ∧ W (i + 1) m' σ' H') ∧ ∀ x H', J.yld i H x H' → g x σ H' fun σ2 H2 => t { D with nx := N, ct := N, bk := D.nx } σ2 H2)
theorem w_for (h : wi σ H fun J H1 => ForB J g t D σ H1) : tFor wi g t D σ H := h
def LcB (J : It) (g : TG) (tt : TT) (te : TE) (vs : List Nat) (σ : L2.St) (Q : VK) (H1 : Hp) : Prop := ∀ D, H1 D = none → ∃ W : Nat → Nat → Hp → Prop, (∃ m, W 0 m (upd H1 D (.lst []))) ∧ ∀ i m H, W i m H →
  (J.stop i H ∧ Q (.ref D) H) ∨ (J.go i H ∧ ∃ Nx : Hp → Prop, (∀ H', Nx H' → ∃ m', m' < m ∧ W (i + 1) m' H') ∧ ∀ x H', J.yld i H x H' → g x (wipe σ vs) H' fun σ2 H2 => wipe σ2 vs = wipe σ vs ∧ tt σ2 H2 fun b H3 =>
    if b = true then te σ2 H3 fun y H4 => ∃ acc, H4 D = some (.lst acc) ∧ acc.length < sizeLine ∧ Nx (upd H4 D (.lst (acc ++ [y]))) else Nx H3)
theorem w_lc (h : wi σ H fun J H1 => LcB J g tt te vs σ Q H1) : tLc wi g tt te vs σ H Q := h
def IL1 (K : PySem.W.Frag) (R : It → Hp → Prop) (x : V) (H1 : Hp) : Prop := ∃ a, x = .ref a ∧ (∃ xs, SqL K H1 a xs) ∧ R (Itl K a) H1
def IT1 (K : PySem.W.Frag) (R : It → Hp → Prop) (x : V) (H1 : Hp) : Prop := ∃ a, x = .ref a ∧ (∃ xs, SqT K H1 a xs) ∧ R (Itt K a) H1
def IR1 (R : It → Hp → Prop) (vs : List V) (H1 : Hp) : Prop := ∃ j : Int, vs = [.int j] ∧ -(2 ^ 62) ≤ j ∧ j < 2 ^ 62 ∧ R (Itr 0 j.toNat) H1
def IR2 (R : It → Hp → Prop) (vs : List V) (H1 : Hp) : Prop := ∃ i j : Int, vs = [.int i, .int j] ∧ (-(2 ^ 62) ≤ i ∧ i < 2 ^ 62 ∧ -(2 ^ 62) ≤ j ∧ j < 2 ^ 62) ∧ R (Itr i (j - i).toNat) H1
variable {R : It → Hp → Prop}
theorem w_iL (h : tl σ H fun x H1 => IL1 K R x H1) : iList K tl σ H R := h
theorem w_iT (h : tl σ H fun x H1 => IT1 K R x H1) : iTup K tl σ H R := h
theorem w_iR1 (h : s σ H fun x H1 => IR1 R x H1) : iRng1 s σ H R := h
theorem w_iR2 (h : s σ H fun x H1 => IR2 R x H1) : iRng2 s σ H R := h
theorem w_IL1 {a : Addr} {xs : List V} (h : SqL K H a xs) (q : R (Itl K a) H) : IL1 K R (.ref a) H := ⟨a, rfl, ⟨xs, h⟩, q⟩
theorem w_IT1 {a : Addr} {xs : List V} (h : SqT K H a xs) (q : R (Itt K a) H) : IT1 K R (.ref a) H := ⟨a, rfl, ⟨xs, h⟩, q⟩
theorem w_IR1 {j : Int} (h : -1000000 ≤ j ∧ j ≤ 1000000) (q : R (Itr 0 j.toNat) H) : IR1 R [.int j] H := ⟨j, rfl, by omega, by omega, q⟩
theorem w_IR2 {i j : Int} (h : -1000000 ≤ i ∧ i ≤ 1000000 ∧ -1000000 ≤ j ∧ j ≤ 1000000) (q : R (Itr i (j - i).toNat) H) : IR2 R [.int i, .int j] H := ⟨i, j, rfl, by omega, q⟩
/-- for x in a list that stands: Pv by the turn, the slots, the heap -/
theorem for_l {a : Addr} {j : Nat} (xs : List V) (Pv : Nat → L2.St → Hp → Prop) (h0 : Pv 0 σ H) (hl : ∀ i σ H, i ≤ xs.length → Pv i σ H → SqL K H a xs)
    (hs : ∀ i x σ' H', xs[i]? = some x → Pv i σ' H' → t { D with nx := Pv (i + 1), ct := Pv (i + 1), bk := D.nx } (σ'.set j (some x)) H') (hd : ∀ σ' H', Pv xs.length σ' H' → D.nx σ' H') : ForB (Itl K a) (gName j) t D σ H :=
  for_list Pv h0 hl hs hd
theorem for_t {a : Addr} {j : Nat} (xs : List V) (Pv : Nat → L2.St → Hp → Prop) (h0 : Pv 0 σ H) (hl : ∀ i σ H, i ≤ xs.length → Pv i σ H → SqT K H a xs)
    (hs : ∀ i x σ' H', xs[i]? = some x → Pv i σ' H' → t { D with nx := Pv (i + 1), ct := Pv (i + 1), bk := D.nx } (σ'.set j (some x)) H') (hd : ∀ σ' H', Pv xs.length σ' H' → D.nx σ' H') : ForB (Itt K a) (gName j) t D σ H :=
  for_tup Pv h0 hl hs hd
theorem for_r {n j : Nat} (Pv : Nat → L2.St → Hp → Prop) (h0 : Pv 0 σ H)
    (hs : ∀ (i : Nat) σ' H', i < n → Pv i σ' H' → t { D with nx := Pv (i + 1), ct := Pv (i + 1), bk := D.nx } (σ'.set j (some (.int (i : Int)))) H') (hd : ∀ σ' H', Pv n σ' H' → D.nx σ' H') : ForB (Itr 0 n) (gName j) t D σ H :=
  for_range Pv h0 (fun i σ' H' hi p => by
    show t _ (σ'.set j (some (.int (0 + (i : Int))))) H'
    rw [Int.zero_add]
    exact hs i σ' H' hi p) hd
theorem for_r2 {lo : Int} {n j : Nat} (Pv : Nat → L2.St → Hp → Prop) (h0 : Pv 0 σ H)
    (hs : ∀ (i : Nat) σ' H', i < n → Pv i σ' H' → t { D with nx := Pv (i + 1), ct := Pv (i + 1), bk := D.nx } (σ'.set j (some (.int (lo + (i : Int))))) H') (hd : ∀ σ' H', Pv n σ' H' → D.nx σ' H') : ForB (Itr lo n) (gName j) t D σ H :=
  for_range Pv h0 hs hd
/-- a comprehension over range(n) whose elements leave the heap -/
theorem lc_r {n j : Nat} (f : Nat → V) (hn : n < 1000000) (hw : ∀ x, wipe ((wipe σ vs).set j (some x)) vs = wipe σ vs)
    (he : ∀ (i : Nat) H' (Q' : VK), i < n → Same H H' → Q' (f i) H' → te ((wipe σ vs).set j (some (.int (i : Int)))) H' Q')
    (q : ∀ p H', H p = none → Same H H' → H' p = some (.lst ((List.range n).map f)) → Q (.ref p) H') : LcB (Itr 0 n) (gName j) tYes te vs σ Q H := fun p hp =>
  lc_range (lo := 0) (n := n) (fun i H' => H' = upd H p (.lst ((List.range i).map f))) rfl (fun i H' hi e => by
    subst e
    have e0 : V.int (0 + (i : Int)) = V.int (i : Int) := by rw [Int.zero_add]
    show wipe ((wipe σ vs).set j (some (V.int (0 + (i : Int))))) vs = wipe σ vs ∧ te ((wipe σ vs).set j (some (V.int (0 + (i : Int))))) (upd H p (.lst ((List.range i).map f)))
      (fun y H4 => ∃ acc, H4 p = some (.lst acc) ∧ acc.length < sizeLine ∧ upd H4 p (.lst (acc ++ [y])) = upd H p (.lst ((List.range (i + 1)).map f)))
    rw [e0]
    refine ⟨hw _, he i _ _ hi (same_upd hp) ⟨_, upd_same, ?_, ?_⟩⟩
    · rw [List.length_map, List.length_range]
      exact Nat.lt_of_lt_of_le (show i < 16777216 by omega) (by rw [sizeLine_eq]; exact Nat.le_refl _)
    · rw [upd_upd, List.range_succ, List.map_append]
      rfl) fun H' e => by
    subst e
    exact q p _ hp (same_upd hp) upd_same
end
/-! lists of ints -/
theorem get_map {α : Type} {xs : List α} {f : α → V} {i : Nat} {x : V} (h : (xs.map f)[i]? = some x) : ∃ y, xs[i]? = some y ∧ x = f y := by
  rw [List.getElem?_map] at h
  cases e : xs[i]? with
  | none => rw [e] at h; cases h
  | some y => rw [e] at h; exact ⟨y, rfl, (Option.some.inj h).symm⟩
theorem cut_upto (xs : List V) (n : Nat) : cutV xs none (some (n : Int)) = xs.take n := by
  unfold cutV
  rw [HT.sIx_none, HT.sIx_nat, List.drop_zero, Nat.sub_zero]
  rcases Nat.le_total n xs.length with h | h
  · rw [Nat.min_eq_left h]
  · rw [Nat.min_eq_right h, List.take_of_length_le (Nat.le_refl _), List.take_of_length_le h]
theorem cut_from (xs : List V) (n : Nat) (h : n ≤ xs.length) : cutV xs (some (n : Int)) none = xs.drop n := by
  unfold cutV
  rw [HT.sIx_none, HT.sIx_nat, Nat.min_eq_left h]
  exact List.take_of_length_le (by rw [List.length_drop]; exact Nat.le_refl _)
/-- the cells of a law: at most 63 of the script, and nought behind -/
def cells (ns : List Int) : List Int := ns.take 63 ++ [0]
theorem cells_eq (ns : List Int) : cutV (ns.map V.int) none (some (63 : Int)) ++ [V.int 0] = (cells ns).map V.int := by
  rw [show (63 : Int) = ((63 : Nat) : Int) from rfl, cut_upto, cells, List.map_append, List.map_take]
  rfl
theorem cells_len (ns : List Int) : (cells ns).length ≤ 64 ∧ 1 ≤ (cells ns).length := by
  unfold cells
  rw [List.length_append, List.length_take, List.length_singleton]
  omega
theorem cutV_le (xs : List V) (lo hi : Option Int) {n : Nat} (h : xs.length ≤ n) : (cutV xs lo hi).length ≤ n := Nat.le_trans (cutV_length xs lo hi) h
/-! == of data -/
theorem w_neD {K : PySem.W.Frag} {H : Hp} {Q : VK} {x y : V} {d e : PyData} (hx : Dp K H x d) (hy : Dp K H y e) (sd : SeqAt.shaped d = true) (se : SeqAt.shaped e = true) (q : Q (.bl (!PyData.eqv d e)) H) : rNeD K x y H Q := ⟨d, e, hx, hy, sd, se, q⟩
theorem w_eqD {K : PySem.W.Frag} {H : Hp} {Q : VK} {x y : V} {d e : PyData} (hx : Dp K H x d) (hy : Dp K H y e) (sd : SeqAt.shaped d = true) (se : SeqAt.shaped e = true) (q : Q (.bl (PyData.eqv d e)) H) : rEqD K x y H Q := ⟨d, e, hx, hy, sd, se, q⟩
theorem w_neSame {K : PySem.W.Frag} {H : Hp} {Q : VK} {x y : V} (d : PyData) (hx : Dp K H x d) (hy : Dp K H y d) (sd : SeqAt.shaped d = true) (q : Q (.bl false) H) : rNeD K x y H Q :=
  ⟨d, d, hx, hy, sd, sd, by rw [SeqAt.eqv_refl d (SeqAt.canLay_of_shaped sd)]; exact q⟩
theorem w_eqSame {K : PySem.W.Frag} {H : Hp} {Q : VK} {x y : V} (d : PyData) (hx : Dp K H x d) (hy : Dp K H y d) (sd : SeqAt.shaped d = true) (q : Q (.bl true) H) : rEqD K x y H Q :=
  ⟨d, d, hx, hy, sd, sd, by rw [SeqAt.eqv_refl d (SeqAt.canLay_of_shaped sd)]; exact q⟩
theorem dp_ints {K : PySem.W.Frag} {H : Hp} : ∀ ns : List Int, DpAll K H (ns.map V.int) (ns.map PyData.int)
  | [] => .nil
  | n :: r => .cons (.int n) (dp_ints r)
theorem lay_ints : ∀ ns : List Int, PyData.canLayAll0 (ns.map PyData.int) = true
  | [] => rfl
  | n :: r => by
    show (PyData.canLay0 (.int n) && PyData.canLayAll0 (r.map PyData.int)) = true
    rw [lay_ints r]
    rfl
/-! lists that change -/
section
variable {K : PySem.W.Frag} {D : Ends} {σ : L2.St} {H H1 : Hp} {Q : VK} {to : TE} {t : TA} {b : TS}
/-- what H does not know may change behind it -/
theorem same_mut {o : Addr} {u : HO} (s : Same H H1) (n : H o = none) : Same H (upd H1 o u) := fun c x e => by
  rw [upd_ne (ne_of_none e n)]
  exact s c x e
def BM1 (K : PySem.W.Frag) (T : String) (f : V → List V → Hp → VK → Prop) (t : TA) (σ : L2.St) (Q : VK) (x : V) (H1 : Hp) : Prop := tyV K T x H1 ∧ t σ H1 fun xs H2 => f x xs H2 Q
def BM0 (K : PySem.W.Frag) (T : String) (f : V → List V → Hp → VK → Prop) (Q : VK) (x : V) (H1 : Hp) : Prop := tyV K T x H1 ∧ f x [] H1 Q
theorem w_bm {T : String} {f : V → List V → Hp → VK → Prop} (h : to σ H fun x H1 => BM1 K T f t σ Q x H1) : tBM K T f to t σ H Q := h
theorem w_bm0 {T : String} {f : V → List V → Hp → VK → Prop} (h : to σ H fun x H1 => BM0 K T f Q x H1) : tBM0 K T f to σ H Q := h
theorem w_BML {f : V → List V → Hp → VK → Prop} {p : Addr} {xs : List V} (e : H p = some (.lst xs)) (q : t σ H fun vs H2 => f (.ref p) vs H2 Q) : BM1 K "list" f t σ Q (.ref p) H := ⟨.inl ⟨rfl, xs, SqL.of e⟩, q⟩
theorem w_BM0L {f : V → List V → Hp → VK → Prop} {p : Addr} {xs : List V} (e : H p = some (.lst xs)) (q : f (.ref p) [] H Q) : BM0 K "list" f Q (.ref p) H := ⟨.inl ⟨rfl, xs, SqL.of e⟩, q⟩
theorem w_append {p : Addr} {xs : List V} {y : V} (e : H p = some (.lst xs)) (hz : xs.length ≤ 1000000) (q : Q .non (upd H p (.lst (xs ++ [y])))) : rAppend (.ref p) [y] H Q :=
  ⟨p, xs, y, rfl, rfl, e, Nat.lt_of_le_of_lt hz (by rw [sizeLine_eq]; decide), q⟩
/-- for k, x in enumerate(a list that stands) -/
def IE1 (K : PySem.W.Frag) (R : It → Hp → Prop) (vs : List V) (H1 : Hp) : Prop := ∃ a xs, vs = [.ref a] ∧ SqL K H1 a xs ∧ R (Ite K a) H1
theorem w_iE {s : TA} {R : It → Hp → Prop} (h : s σ H fun x H1 => IE1 K R x H1) : iEnum K s σ H R := h
theorem w_IE1 {a : Addr} {xs : List V} {R : It → Hp → Prop} (h : SqL K H a xs) (q : R (Ite K a) H) : IE1 K R [.ref a] H := ⟨a, xs, rfl, h, q⟩
theorem for_e {a : Addr} {j k : Nat} (xs : List V) (Pv : Nat → L2.St → Hp → Prop) (h0 : Pv 0 σ H) (hl : ∀ n σ H, n ≤ xs.length → Pv n σ H → SqL K H a xs)
    (hs : ∀ (n : Nat) x σ' H' H'', xs[n]? = some x → Pv n σ' H' → Same H' H'' → b { D with nx := Pv (n + 1), ct := Pv (n + 1), bk := D.nx } ((σ'.set j (some (.int (n : Int)))).set k (some x)) H'') (hd : ∀ σ' H', Pv xs.length σ' H' → D.nx σ' H') :
    ForB (Ite K a) (gTup K 2 (gCons (gName j) (gCons (gName k) gNil))) b D σ H := by
  refine ⟨fun i m σ H => m = xs.length - i ∧ i ≤ xs.length ∧ Pv i σ H, ⟨xs.length, by simp, Nat.zero_le _, h0⟩, ?_⟩
  rintro i m σ H ⟨rfl, hi, p⟩
  have q := hl i σ H hi p
  by_cases hlt : i < xs.length
  · refine .inr ⟨⟨xs, xs[i], q, by simp [hlt]⟩, Pv (i + 1), fun σ' H' p' => ⟨xs.length - (i + 1), by omega, rfl, hlt, p'⟩, fun x H' y => ?_⟩
    obtain ⟨T, y, rfl, nT, rfl, hy⟩ := y
    refine ⟨T, _, rfl, SqT.of upd_same, rfl, _, _, rfl, _, _, rfl, rfl, ?_⟩
    exact hs i y σ H _ (hy xs q) p (same_upd nT)
  · have e : i = xs.length := by omega
    subst e
    exact .inl ⟨⟨xs, q, Nat.le_refl _⟩, hd σ H p⟩
end
/-- x & 1 -/
def rBit1 : R2 := fun x y H Q => ∃ i : Int, x = .int i ∧ y = .int 1 ∧ Q (.int (i % 2)) H
theorem op_bit1 {X : Cx} : OpR X (binaryOp .BitAnd) rBit1 := by
  intro pins s σ H x y v u Q I rx ry h
  obtain ⟨i, rfl, rfl, q⟩ := h
  have e : Builtin.bitAnd i 1 = i % 2 := PySem.W.kbt_mask i 1
  rw [← e] at q
  exact op_and pins s σ H _ _ v u Q I rx ry ⟨_, _, rfl, rfl, q⟩
theorem w_bit1 {H : Hp} {Q : VK} {i : Int} (q : Q (.int (i % 2)) H) : rBit1 (.int i) (.int 1) H Q := ⟨i, rfl, rfl, q⟩
/-- x >> k, k a place -/
def rShrN : R2 := fun x y H Q => ∃ (i : Int) (k : Nat), x = .int i ∧ y = .int (k : Int) ∧ Q (.int (i / 2 ^ k)) H
theorem op_shrK {X : Cx} : OpR X (binaryOp .RShift) rShrN := op_shrN
theorem w_shrN {H : Hp} {Q : VK} {i : Int} {k : Nat} (q : Q (.int (i / 2 ^ k)) H) : rShrN (.int i) (.int (k : Int)) H Q := ⟨i, k, rfl, rfl, q⟩
/-- x << k, x small, k a place -/
def rShlN : R2 := fun x y H Q => ∃ (i : Int) (k : Nat), x = .int i ∧ y = .int (k : Int) ∧ (-100 ≤ i ∧ i ≤ 100 ∧ k ≤ 1000000) ∧ Q (.int (i * 2 ^ k)) H
theorem op_shlK {X : Cx} : OpR X (binaryOp .LShift) rShlN := by
  intro pins s σ H x y v u Q I rx ry h
  obtain ⟨i, k, rfl, rfl, ⟨h1, h2, h3⟩, q⟩ := h
  refine op_shl pins s σ H _ _ v u Q I rx ry ⟨_, _, rfl, rfl, ⟨by omega, by omega, Nat.lt_of_le_of_lt (show i.natAbs ≤ 100 by omega) (by decide)⟩, ?_⟩
  show Q (.int (i * 2 ^ (k : Int).toNat)) H
  rw [Int.toNat_natCast]
  exact q
theorem w_shlN {H : Hp} {Q : VK} {i : Int} {k : Nat} (h : -100 ≤ i ∧ i ≤ 100 ∧ k ≤ 1000000) (q : Q (.int (i * 2 ^ k)) H) : rShlN (.int i) (.int (k : Int)) H Q := ⟨i, k, rfl, rfl, h, q⟩
theorem bits_of_int {i : Int} {n : Nat} (h : i.natAbs < 2 ^ n) : Builtin.Int.intBits i ≤ n + 1 := by
  have b : Builtin.Int.intBits i ≤ i.natAbs.log2 + 1 := by
    unfold Builtin.Int.intBits
    split <;> omega
  rcases Nat.eq_zero_or_pos n with h0 | h0
  · subst h0
    have e : i.natAbs = 0 := by omega
    rw [e] at b
    exact b
  · have := PySem.Flt.log2_lt_of h0 h
    omega
theorem mul_ok {i j : Int} {n : Nat} (hi : Builtin.Int.intBits i ≤ 1048576) (hj : j.natAbs < 2 ^ n) (hn : n ≤ 1000000) : IntMulOk i j :=
  CMulX.ok (show (Builtin.Int.intBits i : Int) + (Builtin.Int.intBits j : Int) ≤ 134217728 by have := bits_of_int hj; omega)
theorem mul_sm {i j : Int} (h : -1000000000000 ≤ i ∧ i ≤ 1000000000000) : IntMulOk i j := .of_left (intBits_le_64 (by omega) (by omega))
theorem mul_sm2 {i j : Int} (h : -1000000000000 ≤ j ∧ j ≤ 1000000000000) : IntMulOk i j := .of_right (intBits_le_64 (by omega) (by omega))
theorem depth_ints : ∀ ns : List Int, PyData.depthAll (ns.map PyData.int) ≤ 1
  | [] => Nat.zero_le 1
  | n :: r => by
    have := depth_ints r
    show max (PyData.depth (.int n)) (PyData.depthAll (r.map PyData.int)) ≤ 1
    exact Nat.max_le.mpr ⟨Nat.zero_le 1, this⟩
theorem shaped_ints (ns : List Int) : SeqAt.shaped (.list (ns.map PyData.int)) = true := by
  unfold SeqAt.shaped
  rw [show PyData.canLay0 (.list (ns.map PyData.int)) = true from lay_ints ns, Bool.true_and]
  have h := depth_ints ns
  exact decide_eq_true (show PyData.depthAll (ns.map PyData.int) + 1 ≤ 64 by omega)
/-! targets of several names -/
section
variable {K : PySem.W.Frag} {σ : L2.St} {H : Hp} {t : TG} {u tt : TGs} {QS : L2.St → Hp → Prop}
theorem w_gTup {n : Nat} {a : Addr} {xs : List V} (h : SqT K H a xs) (e : xs.length = n) (q : tt xs σ H QS) : gTup K n tt (.ref a) σ H QS := ⟨a, xs, rfl, h, e, q⟩
theorem w_gCons {v : V} {r : List V} (q : t v σ H fun σ' H' => u r σ' H' QS) : gCons t u (v :: r) σ H QS := ⟨v, r, rfl, q⟩
theorem w_gNil (q : QS σ H) : gNil [] σ H QS := ⟨rfl, q⟩
theorem w_gName {v : V} {i : Nat} (q : QS (σ.set i (some v)) H) : gName i v σ H QS := q
end
/-- how many bits a number has -/
theorem ib_le {x : Int} (h : 0 ≤ x) (n : Nat) : Builtin.Int.intBits x ≤ n ↔ x < 2 ^ n := by
  obtain ⟨k, rfl⟩ := Int.eq_ofNat_of_zero_le h
  have e : (k : Int) < 2 ^ n ↔ k < 2 ^ n := by
    rw [show ((2 : Int) ^ n) = ((2 ^ n : Nat) : Int) by rw [Int.natCast_pow]; rfl]
    exact Int.ofNat_lt
  rw [e]
  by_cases h0 : k = 0
  · subst h0
    exact ⟨fun _ => Nat.pos_of_ne_zero (by intro z; exact absurd z (Nat.ne_of_gt (Nat.pow_pos (by decide)))), fun _ => Nat.zero_le _⟩
  · have hb : Builtin.Int.intBits (k : Int) = k.log2 + 1 := by
      unfold Builtin.Int.intBits
      rw [if_neg (by simpa using h0)]
      rfl
    rw [hb]
    exact (Nat.log2_lt h0)
theorem mul_cc {i j : Int} (hi : Builtin.Int.intBits i ≤ 1048576) (hj : Builtin.Int.intBits j ≤ 1048576) : IntMulOk i j :=
  CMulX.ok (show (Builtin.Int.intBits i : Int) + (Builtin.Int.intBits j : Int) ≤ 134217728 by omega)
theorem abs_pow (n : Nat) : ((1 : Int) * 2 ^ n).natAbs = 2 ^ n := by
  rw [Int.one_mul, Int.natAbs_pow]
  rfl
/-! cells of a script by their places -/
theorem get_int {ns : List Int} {i : Nat} (hi : i < ns.length) : atI (ns.map V.int) (i : Int) = some (.int ns[i]) := atI_nat (by rw [List.getElem?_map, List.getElem?_eq_getElem hi]; rfl)
theorem atI_lastD {bs : List Int} (h : bs ≠ []) : atI (bs.map V.int) (-1) = some (.int (bs.getLastD 0)) := by
  obtain ⟨r, x, rfl⟩ : ∃ r x, bs = r ++ [x] := ⟨bs.dropLast, bs.getLast h, (List.dropLast_concat_getLast h).symm⟩
  rw [List.map_append]
  have e : (r ++ [x]).getLastD 0 = x := by simp
  rw [e]
  exact atI_last _ _
theorem atI_prev {xs : List Int} {k : Nat} (hk : k < xs.length) : ∃ c, atI (xs.map V.int) ((k : Int) - 1) = some (.int c) ∧ c ∈ xs := by
  cases k with
  | zero =>
    have hne : xs ≠ [] := fun z => by
      rw [z] at hk
      exact absurd hk (by decide)
    refine ⟨xs.getLastD 0, atI_lastD hne, ?_⟩
    obtain ⟨r, x, rfl⟩ : ∃ r x, xs = r ++ [x] := ⟨xs.dropLast, xs.getLast hne, (List.dropLast_concat_getLast hne).symm⟩
    simp
  | succ j =>
    have hj : j < xs.length := by omega
    refine ⟨xs[j], ?_, List.getElem_mem hj⟩
    have e : ((j + 1 : Nat) : Int) - 1 = (j : Int) := by omega
    rw [e]
    exact get_int hj
theorem cells_bits {ns : List Int} (h : ∀ z ∈ ns, Builtin.Int.intBits z ≤ 1048576) : ∀ z ∈ cells ns, Builtin.Int.intBits z ≤ 1048576 := by
  intro z hz
  rcases List.mem_append.mp hz with q | q
  · exact h z (List.mem_of_mem_take q)
  · have e : z = 0 := List.mem_singleton.mp q
    rw [e]
    decide
/-! texts compared -/
theorem w_itS1 {x y : Str} {A B : Prop} (e : decide (x = y) = true) (h : A) : if decide (V.str x = V.str y) = true then A else B := by
  rw [of_decide_eq_true e, decide_eq_true rfl]
  exact w_itT h
theorem w_itS0 {x y : Str} {A B : Prop} (e : decide (x = y) = false) (h : B) : if decide (V.str x = V.str y) = true then A else B := by
  rw [decide_eq_false (fun z => of_decide_eq_false e (V.str.inj z))]
  exact w_itF h
theorem w_itN1 {x y : Str} {A B : Prop} (e : decide (x = y) = true) (h : B) : if (!decide (V.str x = V.str y)) = true then A else B := by
  rw [of_decide_eq_true e, decide_eq_true rfl]
  exact w_itF h
theorem w_itN0 {x y : Str} {A B : Prop} (e : decide (x = y) = false) (h : A) : if (!decide (V.str x = V.str y)) = true then A else B := by
  rw [decide_eq_false (fun z => of_decide_eq_false e (V.str.inj z))]
  exact w_itT h
theorem w_itS {x y : Str} {A B : Prop} (h1 : x = y → A) (h2 : x ≠ y → B) : if decide (V.str x = V.str y) = true then A else B := by
  by_cases e : x = y
  · exact w_itS1 (decide_eq_true e) (h1 e)
  · exact w_itS0 (decide_eq_false e) (h2 e)
theorem w_itSN {x y : Str} {A B : Prop} (h1 : x ≠ y → A) (h2 : x = y → B) : if (!decide (V.str x = V.str y)) = true then A else B := by
  by_cases e : x = y
  · exact w_itN1 (decide_eq_true e) (h2 e)
  · exact w_itN0 (decide_eq_false e) (h1 e)
/-! dicts asked -/
def DG1 (x y : V) (H2 : Hp) (Q : VK) : Prop := ∃ a v, x = .ref a ∧ DGet H2 a y (some v) ∧ Q v H2
theorem w_dget {td ty : TE} {σ : L2.St} {H : Hp} {Q : VK} (h : td σ H fun x H1 => ty σ H1 fun y H2 => DG1 x y H2 Q) : tDGet td ty σ H Q := h
theorem w_DG1 {a : Addr} {kvs : List (Key × V)} {n : Str} {v : V} {H : Hp} {Q : VK} (e : H a = some (.dK kvs)) (g : valV kvs (Sum.inr n) = some v) (q : Q v H) : DG1 (.ref a) (.str n) H Q :=
  ⟨a, v, rfl, by rw [← g]; exact DGet.k (k := Sum.inr n) e, q⟩
/-! lists in step -/
def A2 {α β : Type} (R : α → β → Prop) (xs : List α) (ys : List β) : Prop := xs.length = ys.length ∧ ∀ (i : Nat) x y, xs[i]? = some x → ys[i]? = some y → R x y
theorem A2.nil {α β : Type} {R : α → β → Prop} : A2 R [] [] := ⟨rfl, fun i x y h => by cases h⟩
theorem A2.snoc {α β : Type} {R : α → β → Prop} {xs : List α} {ys : List β} {x : α} {y : β} (h : A2 R xs ys) (r : R x y) : A2 R (xs ++ [x]) (ys ++ [y]) := by
  refine ⟨by rw [List.length_append, List.length_append, h.1]; rfl, fun i u v hu hv => ?_⟩
  rcases Nat.lt_trichotomy i xs.length with q | q | q
  · rw [List.getElem?_append_left q] at hu
    rw [List.getElem?_append_left (by rw [← h.1]; exact q)] at hv
    exact h.2 i u v hu hv
  · subst q
    rw [List.getElem?_append_right (Nat.le_refl _), Nat.sub_self] at hu
    rw [h.1, List.getElem?_append_right (Nat.le_refl _), Nat.sub_self] at hv
    cases hu
    cases hv
    exact r
  · rw [List.getElem?_eq_none (by rw [List.length_append]; exact q)] at hu
    cases hu
theorem A2.mono {α β : Type} {R S : α → β → Prop} {xs : List α} {ys : List β} (h : A2 R xs ys) (k : ∀ x y, R x y → S x y) : A2 S xs ys := ⟨h.1, fun i x y a b => k x y (h.2 i x y a b)⟩
theorem A2.get {α β : Type} {R : α → β → Prop} {xs : List α} {ys : List β} {i : Nat} {x : α} (h : A2 R xs ys) (e : xs[i]? = some x) : ∃ y, ys[i]? = some y ∧ R x y := by
  have hi := (List.getElem?_eq_some_iff.mp e).1
  have hj : i < ys.length := by rw [← h.1]; exact hi
  exact ⟨ys[i], List.getElem?_eq_getElem hj, h.2 i x _ e (List.getElem?_eq_getElem hj)⟩
theorem A2.get2 {α β : Type} {R : α → β → Prop} {xs : List α} {ys : List β} {i : Nat} {y : β} (h : A2 R xs ys) (e : ys[i]? = some y) : ∃ x, xs[i]? = some x ∧ R x y := by
  have hi := (List.getElem?_eq_some_iff.mp e).1
  have hj : i < xs.length := by rw [h.1]; exact hi
  exact ⟨xs[i], List.getElem?_eq_getElem hj, h.2 i _ y (List.getElem?_eq_getElem hj) e⟩
theorem mul_ok2 {i j : Int} {n : Nat} (hi : Builtin.Int.intBits i ≤ 1048576) (hj : j.natAbs < 2 ^ n) (hn : n ≤ 1000000) : IntMulOk i j := mul_ok hi hj hn
/-! the rules with the written part named (within a comprehension it must be) -/
theorem ix_tupK {X : Cx} (K : PySem.W.Frag) (e : X.K = K := by rfl) : IxR X (rIxT K) := by subst e; exact ix_tup
theorem ix_listK {X : Cx} (K : PySem.W.Frag) (e : X.K = K := by rfl) : IxR X (rIxL K) := by subst e; exact ix_list
theorem c_lenK {X : Cx} (K : PySem.W.Frag) (e : X.K = K := by rfl) : CallR X (.builtin "len") (rLen K) := by subst e; exact c_len
theorem c_listK {X : Cx} (K : PySem.W.Frag) (e : X.K = K := by rfl) : CallR X (.type "list") (rListOf K) := by subst e; exact c_list
theorem c_isiK {X : Cx} (K : PySem.W.Frag) (e : X.K = K := by rfl) : CallR X (.builtin "isinstance") (rIsi K) := by subst e; exact call_isi
/-- a comprehension over a list that stands, whose elements leave the heap -/
theorem lc_l {K : PySem.W.Frag} {σ : L2.St} {H : Hp} {Q : VK} {te : TE} {vs : List Nat} {a : Addr} {j : Nat} (xs ys : List V) (hlen : ys.length = xs.length) (hS : SqL K H a xs) (hz : xs.length ≤ 1000000) (hw : ∀ x, wipe ((wipe σ vs).set j (some x)) vs = wipe σ vs)
    (he : ∀ (i : Nat) x y H' (Q' : VK), xs[i]? = some x → ys[i]? = some y → Same H H' → Q' y H' → te ((wipe σ vs).set j (some x)) H' Q')
    (q : ∀ p H', H p = none → Same H H' → H' p = some (.lst ys) → Q (.ref p) H') : LcB (Itl K a) (gName j) tYes te vs σ Q H := fun p hp =>
  lc_list (xs := xs) (fun i H' => H' = upd H p (.lst (ys.take i))) rfl (fun i H' _ e => by
    subst e
    exact (same_upd hp).seq hS) (fun i x H' hx e => by
    subst e
    have hi := (List.getElem?_eq_some_iff.mp hx).1
    have hy : ys[i]? = some ys[i] := List.getElem?_eq_getElem (by omega)
    show wipe ((wipe σ vs).set j (some x)) vs = wipe σ vs ∧ te ((wipe σ vs).set j (some x)) (upd H p (.lst (ys.take i)))
      (fun y H4 => ∃ acc, H4 p = some (.lst acc) ∧ acc.length < sizeLine ∧ upd H4 p (.lst (acc ++ [y])) = upd H p (.lst (ys.take (i + 1))))
    refine ⟨hw _, he i x _ _ _ hx hy (same_upd hp) ⟨_, upd_same, ?_, ?_⟩⟩
    · rw [List.length_take]
      exact Nat.lt_of_lt_of_le (show min i ys.length < 16777216 by omega) (by rw [sizeLine_eq]; exact Nat.le_refl _)
    · rw [upd_upd, List.take_add_one, hy]
      rfl) fun H' e => by
    subst e
    refine q p _ hp (same_upd hp) ?_
    rw [upd_same, List.take_of_length_le (by omega)]
/-- x // (1 << k) -/
def rDivP : R2 := fun x y H Q => ∃ (i : Int) (k : Nat), x = .int i ∧ y = .int (1 * 2 ^ k) ∧ k ≤ 5000 ∧ Q (.int (i / 2 ^ k)) H
theorem op_divP {X : Cx} : OpR X (binaryOp .FloorDiv) rDivP := by
  intro pins s σ H x y v u Q I rx ry h
  obtain ⟨i, k, rfl, rfl, hk, q⟩ := h
  refine op_fdivW pins s σ H _ _ v u Q I rx ry ⟨_, _, rfl, rfl, ?_, ?_⟩
  · refine wide_div (b := k + 1) (by rw [Int.one_mul]; exact p2pos k) ?_ (Nat.succ_pos _) (by omega)
    rw [abs_pow]
    exact Nat.pow_lt_pow_right (by decide) (Nat.lt_succ_self k)
  · show Q (.int (i / (1 * 2 ^ k))) H
    rw [Int.one_mul]
    exact q
theorem w_divP {H : Hp} {Q : VK} {i : Int} {k : Nat} (h : k ≤ 5000) (q : Q (.int (i / 2 ^ k)) H) : rDivP (.int i) (.int (1 * 2 ^ k)) H Q := ⟨i, k, rfl, rfl, h, q⟩
theorem hp_upd {H : Hp} {a b : Addr} {o u : HO} (ne : b ≠ a) (h : H b = some o) : upd H a u b = some o := by rw [upd_ne ne]; exact h
theorem hp_upd2 {H : Hp} {a b : Addr} {o u : HO} (ne : a ≠ b) (h : H b = some o) : upd H a u b = some o := hp_upd ne.symm h
/-- a comprehension over a range, of whose elements something is known -/
theorem lc_rx {σ : L2.St} {H : Hp} {Q : VK} {te : TE} {vs : List Nat} {lo : Int} {n j : Nat} (P : V → Prop) (hn : n < 1000000) (hw : ∀ x, wipe ((wipe σ vs).set j (some x)) vs = wipe σ vs)
    (he : ∀ (i : Nat) H' (Q' : VK), i < n → Same H H' → (∀ y, P y → Q' y H') → te ((wipe σ vs).set j (some (.int (lo + (i : Int))))) H' Q')
    (q : ∀ ys p H', ys.length = n → (∀ y ∈ ys, P y) → H p = none → Same H H' → H' p = some (.lst ys) → Q (.ref p) H') : LcB (Itr lo n) (gName j) tYes te vs σ Q H := fun p hp =>
  lc_range (lo := lo) (n := n) (fun i H' => ∃ ys : List V, ys.length = i ∧ (∀ y ∈ ys, P y) ∧ H' = upd H p (.lst ys)) ⟨[], rfl, fun y h => (by cases h), rfl⟩ (fun i H' hi e => by
    obtain ⟨ys, hl, hP, rfl⟩ := e
    show wipe ((wipe σ vs).set j (some (V.int (lo + (i : Int))))) vs = wipe σ vs ∧ te ((wipe σ vs).set j (some (V.int (lo + (i : Int))))) (upd H p (.lst ys))
      (fun y H4 => ∃ acc, H4 p = some (.lst acc) ∧ acc.length < sizeLine ∧ ∃ zs : List V, zs.length = i + 1 ∧ (∀ y ∈ zs, P y) ∧ upd H4 p (.lst (acc ++ [y])) = upd H p (.lst zs))
    refine ⟨hw _, he i _ _ hi (same_upd hp) fun y hy => ⟨ys, upd_same, ?_, ys ++ [y], ?_, ?_, ?_⟩⟩
    · exact Nat.lt_of_lt_of_le (show ys.length < 16777216 by omega) (by rw [sizeLine_eq]; exact Nat.le_refl _)
    · rw [List.length_append, hl]
      rfl
    · intro z hz
      rcases List.mem_append.mp hz with k | k
      · exact hP z k
      · rw [List.mem_singleton.mp k]
        exact hy
    · rw [upd_upd]) fun H' e => by
    obtain ⟨ys, hl, hP, rfl⟩ := e
    exact q ys p _ hl hP hp (same_upd hp) upd_same
/-- .. over a list -/
theorem lc_lx {K : PySem.W.Frag} {σ : L2.St} {H : Hp} {Q : VK} {te : TE} {vs : List Nat} {a : Addr} {j : Nat} (xs : List V) (P : V → Prop) (hS : SqL K H a xs) (hz : xs.length ≤ 1000000) (hw : ∀ x, wipe ((wipe σ vs).set j (some x)) vs = wipe σ vs)
    (he : ∀ (i : Nat) x H' (Q' : VK), xs[i]? = some x → Same H H' → (∀ y, P y → Q' y H') → te ((wipe σ vs).set j (some x)) H' Q')
    (q : ∀ ys p H', ys.length = xs.length → (∀ y ∈ ys, P y) → H p = none → Same H H' → H' p = some (.lst ys) → Q (.ref p) H') : LcB (Itl K a) (gName j) tYes te vs σ Q H := fun p hp =>
  lc_list (xs := xs) (fun i H' => ∃ ys : List V, ys.length = i ∧ (∀ y ∈ ys, P y) ∧ H' = upd H p (.lst ys)) ⟨[], rfl, fun y h => (by cases h), rfl⟩ (fun i H' _ e => by
    obtain ⟨ys, hl, hP, rfl⟩ := e
    exact (same_upd hp).seq hS) (fun i x H' hx e => by
    obtain ⟨ys, hl, hP, rfl⟩ := e
    have hi := (List.getElem?_eq_some_iff.mp hx).1
    show wipe ((wipe σ vs).set j (some x)) vs = wipe σ vs ∧ te ((wipe σ vs).set j (some x)) (upd H p (.lst ys))
      (fun y H4 => ∃ acc, H4 p = some (.lst acc) ∧ acc.length < sizeLine ∧ ∃ zs : List V, zs.length = i + 1 ∧ (∀ y ∈ zs, P y) ∧ upd H4 p (.lst (acc ++ [y])) = upd H p (.lst zs))
    refine ⟨hw _, he i x _ _ hx (same_upd hp) fun y hy => ⟨ys, upd_same, ?_, ys ++ [y], ?_, ?_, ?_⟩⟩
    · exact Nat.lt_of_lt_of_le (show ys.length < 16777216 by omega) (by rw [sizeLine_eq]; exact Nat.le_refl _)
    · rw [List.length_append, hl]
      rfl
    · intro z hz
      rcases List.mem_append.mp hz with k | k
      · exact hP z k
      · rw [List.mem_singleton.mp k]
        exact hy
    · rw [upd_upd]) fun H' e => by
    obtain ⟨ys, hl, hP, rfl⟩ := e
    exact q ys p _ hl hP hp (same_upd hp) upd_same
/-- values that are all of one form -/
theorem all_map {α : Type} {f : α → V} {R : α → Prop} : ∀ {ys : List V}, (∀ y ∈ ys, ∃ x, y = f x ∧ R x) → ∃ xs : List α, ys = xs.map f ∧ ∀ x ∈ xs, R x
  | [], _ => ⟨[], rfl, fun x h => by cases h⟩
  | y :: r, h => by
    obtain ⟨x, rfl, hx⟩ := h y (List.mem_cons_self ..)
    obtain ⟨xs, rfl, hr⟩ := all_map (f := f) (R := R) fun z hz => h z (List.mem_cons_of_mem _ hz)
    exact ⟨x :: xs, rfl, fun z hz => by
      rcases List.mem_cons.mp hz with e | e
      · rw [e]; exact hx
      · exact hr z e⟩
/-- int(a truth value) -/
def rIntB : List V → Hp → VK → Prop := fun xs H Q => ∃ k : Bool, xs = [.bl k] ∧ Q (.int (if k then 1 else 0)) H
theorem c_intB {X : Cx} : CallR X (.type "int") rIntB := by
  intro pins s σ H xs us Q I r h
  obtain ⟨k, rfl, q⟩ := h
  exact call_int1 pins s σ H _ us Q I r (.inr ⟨k, rfl, q⟩)
theorem w_intB {H : Hp} {Q : VK} {k : Bool} (q : Q (.int (if k then 1 else 0)) H) : rIntB [.bl k] H Q := ⟨k, rfl, q⟩
theorem w_ixS {z : Str} {i : Int} {c : Nat} {H : Hp} {Q : VK} (hz : z.length ≤ 1000000) (h : atI z.cps.toList i = some c) (q : Q (.str ⟨#[c]⟩) H) : rIxS (.str z) (.int i) H Q :=
  ⟨z, i, c, rfl, rfl, Nat.le_trans hz (by rw [sizeLine_eq]; decide), h, q⟩
theorem w_slS {z : Str} {lo hi : Option Int} {H : Hp} {Q : VK} (hz : z.length ≤ 1000000) (q : Q (.str (cutS z lo hi)) H) : rSlS (.str z) lo hi H Q := ⟨z, rfl, Nat.le_trans hz (by rw [sizeLine_eq]; decide), q⟩
/-- ''.join -/
def rJoin (K : PySem.W.Frag) : V → List V → Hp → VK → Prop := fun x xs H Q => ∃ a p, ∃ ys : List Str, x = .str a ∧ xs = [.ref p] ∧ (SqL K H p (ys.map V.str) ∨ SqT K H p (ys.map V.str)) ∧
    (ys.map (·.length)).sum + ys.length * a.length ≤ 16777216 ∧ Q (.str (Txt.join a ys)) H
theorem p_join {X : Cx} {o e : Expr} {to te : TE} {apos pos : Pos} (K : PySem.W.Frag) (ho : PE X o to) (he : PE X e te) (hs : starEach [e] X.env = [(false, eval e X.env)] := by rfl) (hbase : attributeBase o "join" X.env (eval o X.env) = eval o X.env := by rfl) (hline : (apos.endLine == pos.line) = true := by rfl) (hK : X.K = K := by rfl) :
    PE X (.Call (.Attribute o "join" apos) [e] [] pos) (tM1 (rJoin K) to te) := by
  subst hK
  exact pe_join ho he hs hbase hline
def M11 (f : V → List V → Hp → VK → Prop) (te : TE) (σ : L2.St) (Q : VK) (x : V) (H1 : Hp) : Prop := (∃ a, x = .str a) ∧ te σ H1 fun y H2 => f x [y] H2 Q
theorem w_tm1 {f : V → List V → Hp → VK → Prop} {to te : TE} {σ : L2.St} {H : Hp} {Q : VK} (h : to σ H fun x H1 => M11 f te σ Q x H1) : tM1 f to te σ H Q := h
theorem w_M11 {f : V → List V → Hp → VK → Prop} {te : TE} {σ : L2.St} {H : Hp} {Q : VK} {a : Str} (h : te σ H fun y H2 => f (.str a) [y] H2 Q) : M11 f te σ Q (.str a) H := ⟨⟨a, rfl⟩, h⟩
theorem w_join {K : PySem.W.Frag} {H : Hp} {Q : VK} {a : Str} {p : Addr} {ys : List Str} (h : SqL K H p (ys.map V.str)) (hz : (ys.map (·.length)).sum + ys.length * a.length ≤ 16777216) (q : Q (.str (Txt.join a ys)) H) : rJoin K (.str a) [.ref p] H Q :=
  ⟨a, p, ys, rfl, rfl, .inl h, hz, q⟩
/-! x in a list, in a tuple -/
theorem w_inL {K : PySem.W.Frag} {H : Hp} {Q : VK} {x : V} {p : Addr} {xs : List V} (h : SqL K H p xs) (hx : flatV x = true) (ha : xs.all flatV = true) (q : Q (.bl (inV x xs)) H) : rIn K false x (.ref p) H Q := ⟨p, xs, rfl, .inl h, hx, ha, q⟩
theorem w_inT {K : PySem.W.Frag} {H : Hp} {Q : VK} {x : V} {p : Addr} {xs : List V} (h : SqT K H p xs) (hx : flatV x = true) (ha : xs.all flatV = true) (q : Q (.bl (inV x xs)) H) : rIn K false x (.ref p) H Q := ⟨p, xs, rfl, .inr h, hx, ha, q⟩
theorem op_inK {X : Cx} (K : PySem.W.Frag) (e : X.K = K := by rfl) : OpR X (compareOp .In) (rIn K false) := by subst e; exact op_in_seq
theorem w_niL {K : PySem.W.Frag} {H : Hp} {Q : VK} {x : V} {p : Addr} {xs : List V} (h : SqL K H p xs) (hx : flatV x = true) (ha : xs.all flatV = true) (q : Q (.bl (!inV x xs)) H) : rIn K true x (.ref p) H Q := ⟨p, xs, rfl, .inl h, hx, ha, q⟩
theorem w_niT {K : PySem.W.Frag} {H : Hp} {Q : VK} {x : V} {p : Addr} {xs : List V} (h : SqT K H p xs) (hx : flatV x = true) (ha : xs.all flatV = true) (q : Q (.bl (!inV x xs)) H) : rIn K true x (.ref p) H Q := ⟨p, xs, rfl, .inr h, hx, ha, q⟩
theorem op_niK {X : Cx} (K : PySem.W.Frag) (e : X.K = K := by rfl) : OpR X (compareOp .NotIn) (rIn K true) := by subst e; exact op_notIn_seq
end Dpr

namespace Dpr
open PySem PySem.Spec PyProof.Rows L2 PySem.SeqAt
open MeetsSeq MeetsSeq2 MeetsSeq3 SeqRoads2
/-! != of two lists whose items are alike -/
abbrev LstO (d : Option Addr) (xs : Array Value) (n : Nat) (z : Array (Option Value)) : Obj := { cls := .type "list", dict := d, data := .seq xs n, slots := z }
theorem unlike_loop {pr : Program} {wd : World} {p q : Addr} {xs ys : Array Value} {n m : Nat} {d d' : Option Addr} {z z' : Array (Option Value)} (same : xs.size = ys.size) : ∀ (left i : Nat), xs.size - i = left →
    MeetsIn pr wd (Builtin.«list.__eq__.loop» ⟨[.ref p, .ref q, rawInt i, rawInt 3], []⟩) fun A R s => s.heap.get? p = some (LstO d xs n z) ∧ s.heap.get? q = some (LstO d' ys m z') ∧
      (∀ j (u : j < xs.size) (v : j < ys.size), EqP pr wd A.in1 s xs[j] ys[j] true) ∧ R (.ok (.ret (.bool false))) s := by
  intro left
  induction left with
  | zero =>
    intro i gone A R st ⟨gp, gq, alike, r⟩
    obtain ⟨hp, gl, dd, tk, os⟩ := st
    wp_walk using AutoSeq1.wpAny_loadPart' gp, AutoSeq1.wpAny_loadPart' gq
    have n1 : xs[((i : Nat) : Int).toNat]? = none := Array.getElem?_eq_none (by rw [Int.toNat_natCast]; omega)
    have n2 : ys[((i : Nat) : Int).toNat]? = none := Array.getElem?_eq_none (by rw [Int.toNat_natCast]; omega)
    rw [n1, n2]
    wp_walk using AutoSeq1.wpAny_loadPart' gp, AutoSeq1.wpAny_loadPart' gq
    show R (.ok (.ret (.bool (xs.size != ys.size)))) _
    rw [same, bne_self_eq_false]
    exact r
  | succ left again =>
    intro i gone A R st ⟨gp, gq, alike, r⟩
    obtain ⟨hp, gl, dd, tk, os⟩ := st
    wp_walk using AutoSeq1.wpAny_loadPart' gp, AutoSeq1.wpAny_loadPart' gq
    have u : i < xs.size := by omega
    have v : i < ys.size := by omega
    have n1 : xs[((i : Nat) : Int).toNat]? = some xs[i] := by rw [Int.toNat_natCast]; exact Array.getElem?_eq_getElem u
    have n2 : ys[((i : Nat) : Int).toNat]? = some ys[i] := by rw [Int.toNat_natCast]; exact Array.getElem?_eq_getElem v
    rw [n1, n2]
    refine wpAny_bind (alike i u v _ _ ?_)
    wp_walk
    rw [show ((i : Int) + 1) = ((i + 1 : Nat) : Int) from rfl]
    exact ⟨plainId_quiet plain_eq_loop _, codeAny_builtin entry_eq_loop (by rw [Around.under_plainId plain_eq_loop _]; exact again (i + 1) (by omega) A R _ ⟨gp, gq, alike, r⟩)⟩
theorem unlike_list {pr : Program} {wd : World} {p q : Addr} {xs ys : Array Value} {n m : Nat} {d d' : Option Addr} {z z' : Array (Option Value)} (same : xs.size = ys.size) :
    MeetsIn pr wd (Builtin.«list.__ne__» ⟨[.ref p, .ref q], []⟩) fun A R s => s.heap.get? p = some (LstO d xs n z) ∧ s.heap.get? q = some (LstO d' ys m z') ∧
      (∀ j (u : j < xs.size) (v : j < ys.size), EqP pr wd A.in1 s xs[j] ys[j] true) ∧ R (.ok (.ret (.bool false))) s := by
  intro A R st ⟨gp, gq, alike, r⟩
  obtain ⟨hp, gl, dd, tk, os⟩ := st
  have sub := AutoSeq1.sub_list_list
  have nosz : ¬ (xs.size != ys.size) = true := by rw [same, bne_self_eq_false]; exact Bool.false_ne_true
  wp_walk using AutoSeq1.wpAny_loadPart' gp, AutoSeq1.wpAny_loadPart' gq
  exact ⟨plainId_quiet plain_eq_loop _, codeAny_builtin entry_eq_loop (by rw [Around.under_plainId plain_eq_loop _]; exact unlike_loop same _ 0 rfl A R _ ⟨gp, gq, alike, r⟩)⟩
theorem rc_unlike {pr : Program} {wd : World} {A : Around} {s : Shared} {p q : Addr} {xs ys : Array Value} (lp : s.heap.IsList p xs) (lq : s.heap.IsList q ys) (same : xs.size = ys.size) (room : A.units < cLine)
    (alike : ∀ j (u : j < xs.size) (v : j < ys.size), EqP pr wd A.in1 s xs[j] ys[j] true) (E Q : Value → Shared → Prop) (h : Q (.bool false) s) : wpAny (model pr wd) A (richCompare .NotEq (.ref p) (.ref q)) Q E s := by
  obtain ⟨⟨c, d, t, z⟩, gp, cp, n, tp⟩ := id lp
  obtain ⟨⟨c', d', t', z'⟩, gq, cq, m, tq⟩ := id lq
  simp only at cp tp cq tq
  subst cp tp cq tq
  have ip : s.TypeIs (.ref p) "list" := ⟨_, gp, rfl⟩
  have iq : s.TypeIs (.ref q) "list" := ⟨_, gq, rfl⟩
  exact wpAny_richCompare_same_room (op := .NotEq) ip iq F.slot_list_ne (call_meetsIn F.slot_list_ne ip F.entry_list_ne (F.args_list_ne_2 _ _) (unlike_list same) ⟨gp, gq, alike, show Value.bool false ≠ Value.notImplemented ∧ Q (.bool false) s from ⟨(fun z => nomatch z), h⟩⟩) room
/-- a != b, two lists of alike items -/
def rNeV (K : PySem.W.Frag) : R2 := fun x y H Q => ∃ n, n ≤ 60 ∧ (∃ a b xs ys, x = .ref a ∧ y = .ref b ∧ SqL K H a xs ∧ SqL K H b ys ∧ Paired (EqV K H n) xs ys) ∧ Q (.bl false) H
theorem op_neV {X : Cx} (hu : X.A.units + 64 < cLine) (K : PySem.W.Frag) (e : X.K = K := by rfl) : OpR X (compareOp .NotEq) (rNeV K) := by
  subst e
  intro pins s σ H x y v u Q I rx ry h
  obtain ⟨n, hn, ⟨a, b, xs, ys, rfl, rfl, ha, hb, hp⟩, q⟩ := h
  cases (show v = Value.ref a from rx)
  cases (show u = Value.ref b from ry)
  obtain ⟨us, r1, p1, _⟩ := I.list ha
  obtain ⟨ws, r2, p2, _⟩ := I.list hb
  have sz : us.toArray.size = ws.toArray.size := by
    rw [List.size_toArray, List.size_toArray, ← r1.length, ← r2.length]
    exact Paired.length hp
  refine rc_unlike p1.isList p2.isList sz (by omega) (fun j u v => ?_) _ _ ⟨.bl false, H, I, rfl, q⟩
  have k := items_run (eqV_run I n X.A.in1 (by show X.A.units + 1 + n < cLine; omega)) hp r1 r2 j (by simpa using u) (by simpa using v)
  simpa using k
end Dpr

namespace Dpr
open PySem PySem.Spec PyProof.Rows L2
/-! ### rows of gates -/
inductive Bop where
  | and | or | xor
  deriving DecidableEq
inductive Row where
  | fix (b : Int) | inn (n : Str) (k : Nat) | inv (a : Nat) | bin (o : Bop) (a b : Nat) | lat (a : Nat)
  deriving DecidableEq
def bopS : Bop → Str
  | .and => "and" | .or => "or" | .xor => "xor"
def rowV : Row → List V
  | .fix b => [.str "fix", .int b]
  | .inn n k => [.str "in", .str n, .int (k : Int)]
  | .inv a => [.str "not", .int (a : Int)]
  | .bin o a b => [.str (bopS o), .int (a : Int), .int (b : Int)]
  | .lat a => [.str "latch", .int (a : Int)]
def RowAt (H : Hp) (p : Addr) (r : Row) : Prop := H p = some (.tup (rowV r))
/-- a list of rows that may be read -/
def RowsL (K : PySem.W.Frag) (H : Hp) (a : Addr) (rs : List Row) : Prop := ∃ ps : List Addr, SqL K H a (ps.map V.ref) ∧ A2 (RowAt H) ps rs
/-- one of our own, that may change -/
def RowsM (H : Hp) (a : Addr) (rs : List Row) : Prop := ∃ ps : List Addr, H a = some (.lst (ps.map V.ref)) ∧ A2 (RowAt H) ps rs
theorem RowsL.same {K : PySem.W.Frag} {H H' : Hp} {a : Addr} {rs : List Row} (s : Same H H') (h : RowsL K H a rs) : RowsL K H' a rs := by
  obtain ⟨ps, h1, h2⟩ := h
  exact ⟨ps, s.seq h1, h2.mono fun p r e => s _ _ e⟩
theorem RowsM.same {H H' : Hp} {a : Addr} {rs : List Row} (s : Same H H') (h : RowsM H a rs) : RowsM H' a rs := by
  obtain ⟨ps, h1, h2⟩ := h
  exact ⟨ps, s _ _ h1, h2.mono fun p r e => s _ _ e⟩
theorem RowsM.read {K : PySem.W.Frag} {H : Hp} {a : Addr} {rs : List Row} (h : RowsM H a rs) : RowsL K H a rs := by
  obtain ⟨ps, h1, h2⟩ := h
  exact ⟨ps, SqL.of h1, h2⟩
/-! numbers by names -/
def wkv (ws : List (Str × Int)) : List (Key × V) := ws.map fun p => (Sum.inr p.1, V.int p.2)
def lookW (ws : List (Str × Int)) (n : Str) : Option Int := (ws.find? fun p => decide (p.1 = n)).map (·.2)
theorem valV_wkv (n : Str) : ∀ ws : List (Str × Int), valV (wkv ws) (Sum.inr n) = (lookW ws n).map V.int
  | [] => rfl
  | p :: r => by
    have ih := valV_wkv n r
    by_cases e : p.1 = n
    · rw [show wkv (p :: r) = (Sum.inr p.1, V.int p.2) :: wkv r from rfl, valV_pos (by rw [e])]
      unfold lookW
      rw [List.find?_cons_of_pos (by simpa using e)]
      rfl
    · rw [show wkv (p :: r) = (Sum.inr p.1, V.int p.2) :: wkv r from rfl, valV_neg (fun z => e (Sum.inr.inj z)), ih]
      unfold lookW
      rw [List.find?_cons_of_neg (by simpa using e)]
theorem lookW_hit {n : Str} {v : Int} {ws : List (Str × Int)} : lookW ((n, v) :: ws) n = some v := by
  unfold lookW
  rw [List.find?_cons_of_pos (by simp)]
  rfl
theorem lookW_skip {m n : Str} {v : Int} {ws : List (Str × Int)} (h : decide (m = n) = false) : lookW ((m, v) :: ws) n = lookW ws n := by
  unfold lookW
  rw [List.find?_cons_of_neg (by simpa using h)]
/-! what a gate tells -/
def bopI (o : Bop) (x y : Int) : Int := match o with
  | .and => x * y
  | .or => x + y - x * y
  | .xor => (x + y) % 2
def gateI (ws : List (Str × Int)) (bits : List Int) : Row → Int
  | .fix b => b
  | .inn n k => (lookW ws n).getD 0 / 2 ^ k % 2
  | .inv a => 1 - bits.getD a 0
  | .bin o a b => bopI o (bits.getD a 0) (bits.getD b 0)
  | .lat _ => 0
def is01 (x : Int) : Prop := x = 0 ∨ x = 1
def RowOk (N : Str → Prop) (n : Nat) : Row → Prop
  | .fix b => is01 b
  | .inn m k => N m ∧ k < 64
  | .inv a => a < n
  | .bin _ a b => a < n ∧ b < n
  | .lat a => a < n
def noLat : Row → Prop
  | .lat _ => False
  | _ => True
def RowsOk (N : Str → Prop) (rs : List Row) : Prop := ∀ (i : Nat) r, rs[i]? = some r → RowOk N i r
def NoLats (rs : List Row) : Prop := ∀ r ∈ rs, noLat r
/-- all names have numbers -/
def Has (N : Str → Prop) (ws : List (Str × Int)) : Prop := ∀ n, N n → ∃ v, lookW ws n = some v
def toldL (ws : List (Str × Int)) (rs : List Row) : List Int := rs.foldl (fun bits r => bits ++ [gateI ws bits r]) []
theorem toldL_snoc (ws : List (Str × Int)) (rs : List Row) (r : Row) : toldL ws (rs ++ [r]) = toldL ws rs ++ [gateI ws (toldL ws rs) r] := by
  unfold toldL
  rw [List.foldl_append]
  rfl
theorem take_snoc {α : Type} {xs : List α} {i : Nat} {x : α} (h : xs[i]? = some x) : xs.take (i + 1) = xs.take i ++ [x] := by
  rw [List.take_add_one, h]
  rfl
theorem toldL_len (ws : List (Str × Int)) (rs : List Row) : (toldL ws rs).length = rs.length := by
  have key : ∀ (rs : List Row) (acc : List Int), (rs.foldl (fun bits r => bits ++ [gateI ws bits r]) acc).length = acc.length + rs.length := by
    intro rs
    induction rs with
    | nil => intro acc; rfl
    | cons r rs ih =>
      intro acc
      rw [List.foldl_cons, ih, List.length_append, List.length_singleton, List.length_cons]
      omega
  unfold toldL
  rw [key]
  exact Nat.zero_add _
def All01 (bs : List Int) : Prop := ∀ x ∈ bs, is01 x
theorem all01_get {bs : List Int} (h : All01 bs) (i : Nat) : is01 (bs.getD i 0) := by
  rw [List.getD_eq_getElem?_getD]
  cases e : bs[i]? with
  | none => exact .inl rfl
  | some x => exact h x (List.mem_of_getElem? e)
theorem bopI_01 (o : Bop) {x y : Int} (hx : is01 x) (hy : is01 y) : is01 (bopI o x y) := by
  unfold is01 at *
  cases o <;> unfold bopI <;> rcases hx with rfl | rfl <;> rcases hy with rfl | rfl <;> decide
theorem gateI_01 {N : Str → Prop} {n : Nat} {r : Row} (ws : List (Str × Int)) {bs : List Int} (h : All01 bs) (ok : RowOk N n r) : is01 (gateI ws bs r) := by
  cases r with
  | fix b => exact ok
  | inn m k =>
    show (lookW ws m).getD 0 / 2 ^ k % 2 = 0 ∨ (lookW ws m).getD 0 / 2 ^ k % 2 = 1
    omega
  | inv a =>
    have q : bs.getD a 0 = 0 ∨ bs.getD a 0 = 1 := all01_get h a
    show 1 - bs.getD a 0 = 0 ∨ 1 - bs.getD a 0 = 1
    omega
  | bin o a b => exact bopI_01 o (all01_get h a) (all01_get h b)
  | lat a => exact .inl rfl
theorem toldL_01 {N : Str → Prop} (ws : List (Str × Int)) {rs : List Row} (ok : RowsOk N rs) : ∀ i, All01 (toldL ws (rs.take i))
  | 0 => fun x hx => by cases hx
  | i + 1 => by
    have ih := toldL_01 ws ok i
    cases e : rs[i]? with
    | none =>
      have : rs.take (i + 1) = rs.take i := by rw [List.take_add_one, e]; exact List.append_nil _
      rw [this]
      exact ih
    | some r =>
      rw [take_snoc e, toldL_snoc]
      intro x hx
      rcases List.mem_append.mp hx with q | q
      · exact ih x q
      · rw [List.mem_singleton.mp q]
        exact gateI_01 ws ih (ok i r e)
/-- a bit by its place -/
theorem bit_get {bs : List Int} {a : Nat} (h : a < bs.length) : atI (bs.map V.int) (a : Int) = some (.int (bs.getD a 0)) := by
  rw [get_int h, List.getD_eq_getElem?_getD, List.getElem?_eq_getElem h]
  rfl
/-! rows that are put -/
theorem rowAt_upd {H : Hp} {a p : Addr} {xs ys : List V} {r : Row} (h : H a = some (.lst xs)) (hp : RowAt H p r) : RowAt (upd H a (.lst ys)) p r := by
  have ne : p ≠ a := fun e => by
    rw [e] at hp
    exact absurd (hp.symm.trans h) (fun z => by cases z)
  show upd H a (.lst ys) p = _
  rw [upd_ne ne]
  exact hp
theorem RowsM.push {H : Hp} {a p : Addr} {rs : List Row} {r : Row} {ps : List Addr} (h : H a = some (.lst (ps.map V.ref))) (hA : A2 (RowAt H) ps rs) (hp : RowAt H p r) : RowsM (upd H a (.lst (ps.map V.ref ++ [.ref p]))) a (rs ++ [r]) :=
  ⟨ps ++ [p], by rw [upd_same, List.map_append]; rfl, (hA.mono fun _ _ e => rowAt_upd h e).snoc (rowAt_upd h hp)⟩
theorem RowsM.upd {H : Hp} {a b : Addr} {rs : List Row} {xs ys : List V} (ne : a ≠ b) (h : H b = some (.lst xs)) (hr : RowsM H a rs) : RowsM (upd H b (.lst ys)) a rs := by
  obtain ⟨ps, h1, h2⟩ := hr
  exact ⟨ps, by rw [upd_ne ne]; exact h1, h2.mono fun _ _ e => rowAt_upd h e⟩
theorem RowsM.len {H : Hp} {a : Addr} {rs : List Row} (h : RowsM H a rs) : ∃ ps : List Addr, H a = some (.lst (ps.map V.ref)) ∧ A2 (RowAt H) ps rs ∧ ps.length = rs.length := by
  obtain ⟨ps, h1, h2⟩ := h
  exact ⟨ps, h1, h2, h2.1⟩
theorem RowsOk.snoc {N : Str → Prop} {rs : List Row} {r : Row} (h : RowsOk N rs) (k : RowOk N rs.length r) : RowsOk N (rs ++ [r]) := by
  intro i x hx
  rcases Nat.lt_trichotomy i rs.length with q | q | q
  · rw [List.getElem?_append_left q] at hx
    exact h i x hx
  · subst q
    rw [List.getElem?_append_right (Nat.le_refl _), Nat.sub_self] at hx
    cases hx
    exact k
  · rw [List.getElem?_eq_none (by rw [List.length_append]; exact q)] at hx
    cases hx
theorem NoLats.snoc {rs : List Row} {r : Row} (h : NoLats rs) (k : noLat r) : NoLats (rs ++ [r]) := by
  intro x hx
  rcases List.mem_append.mp hx with q | q
  · exact h x q
  · rw [List.mem_singleton.mp q]
    exact k
/-! rows as data -/
def rowD : Row → PyData
  | .fix b => .tuple [.str "fix", .int b]
  | .inn n k => .tuple [.str "in", .str n, .int (k : Int)]
  | .inv a => .tuple [.str "not", .int (a : Int)]
  | .bin o a b => .tuple [.str (bopS o), .int (a : Int), .int (b : Int)]
  | .lat a => .tuple [.str "latch", .int (a : Int)]
theorem dp_row {K : PySem.W.Frag} {H : Hp} {p : Addr} {r : Row} (h : RowAt H p r) : Dp K H (.ref p) (rowD r) := by
  cases r with
  | fix b => exact .tup (SqT.of h) (.cons (.str _) (.cons (.int _) .nil))
  | inn n k => exact .tup (SqT.of h) (.cons (.str _) (.cons (.str _) (.cons (.int _) .nil)))
  | inv a => exact .tup (SqT.of h) (.cons (.str _) (.cons (.int _) .nil))
  | bin o a b => exact .tup (SqT.of h) (.cons (.str _) (.cons (.int _) (.cons (.int _) .nil)))
  | lat a => exact .tup (SqT.of h) (.cons (.str _) (.cons (.int _) .nil))
theorem A2.tail {α β : Type} {R : α → β → Prop} {x : α} {y : β} {xs : List α} {ys : List β} (h : A2 R (x :: xs) (y :: ys)) : R x y ∧ A2 R xs ys :=
  ⟨h.2 0 x y rfl rfl, by have := h.1; simp only [List.length_cons] at this; omega, fun i u v hu hv => h.2 (i + 1) u v hu hv⟩
theorem dp_rows {K : PySem.W.Frag} {H : Hp} : ∀ {ps : List Addr} {rs : List Row}, A2 (RowAt H) ps rs → DpAll K H (ps.map V.ref) (rs.map rowD)
  | [], [], _ => .nil
  | [], _ :: _, h => by have := h.1; simp at this
  | _ :: _, [], h => by have := h.1; simp at this
  | p :: ps, r :: rs, h => .cons (dp_row h.tail.1) (dp_rows h.tail.2)
def NmOk (r : Row) : Prop := match r with
  | .inn n _ => PyData.strOk n = true
  | _ => True
theorem lay_row {r : Row} (h : NmOk r) : PyData.canLay0 (rowD r) = true := by
  cases r with
  | fix b =>
    show (PyData.strOk "fix" && (true && true)) = true
    decide +kernel
  | inn n k =>
    show (PyData.strOk "in" && (PyData.strOk n && (true && true))) = true
    rw [show PyData.strOk n = true from h]
    decide +kernel
  | inv a =>
    show (PyData.strOk "not" && (true && true)) = true
    decide +kernel
  | bin o a b =>
    show (PyData.strOk (bopS o) && (true && (true && true))) = true
    cases o <;> decide +kernel
  | lat a =>
    show (PyData.strOk "latch" && (true && true)) = true
    decide +kernel
theorem lay_rows : ∀ {rs : List Row}, (∀ r ∈ rs, NmOk r) → PyData.canLayAll0 (rs.map rowD) = true
  | [], _ => rfl
  | r :: rs, h => by
    show (PyData.canLay0 (rowD r) && PyData.canLayAll0 (rs.map rowD)) = true
    rw [lay_row (h r (List.mem_cons_self ..)), lay_rows fun x hx => h x (List.mem_cons_of_mem _ hx)]
    rfl
theorem depth_row (r : Row) : PyData.depth (rowD r) ≤ 1 := by
  cases r <;> exact Nat.le_of_ble_eq_true rfl
theorem depth_rows : ∀ rs : List Row, PyData.depthAll (rs.map rowD) ≤ 1
  | [] => Nat.zero_le 1
  | r :: rs => Nat.max_le.mpr ⟨depth_row r, depth_rows rs⟩
theorem shaped_rows {rs : List Row} (h : ∀ r ∈ rs, NmOk r) : SeqAt.shaped (.list (rs.map rowD)) = true := by
  unfold SeqAt.shaped
  rw [show PyData.canLay0 (.list (rs.map rowD)) = true from lay_rows h, Bool.true_and]
  have := depth_rows rs
  exact decide_eq_true (show PyData.depthAll (rs.map rowD) + 1 ≤ 64 by omega)
/-! dicts of numbers compared, copied -/
theorem flat_wkv (ws : List (Str × Int)) : ∀ p ∈ wkv ws, flatB p.2 = true := by
  intro p hp
  obtain ⟨q, _, rfl⟩ := List.mem_map.mp hp
  rfl
theorem valV_self : ∀ {ws : List (Str × Int)}, (ws.map (·.1)).Nodup → ∀ p ∈ wkv ws, valV (wkv ws) p.1 = some p.2
  | [], _, p, hp => by cases hp
  | q :: r, h, p, hp => by
    obtain ⟨h1, h2⟩ := List.nodup_cons.mp (show (q.1 :: r.map (·.1)).Nodup from h)
    rcases List.mem_cons.mp hp with e | e
    · rw [e]
      exact valV_pos rfl
    · have ih := valV_self h2 p e
      obtain ⟨z, hz, rfl⟩ := List.mem_map.mp e
      have ne : ¬ q.1 = z.1 := fun w => h1 (by rw [w]; exact List.mem_map.mpr ⟨z, hz, rfl⟩)
      rw [show wkv (q :: r) = (Sum.inr q.1, V.int q.2) :: wkv r from rfl, valV_neg (fun w => ne (Sum.inr.inj w))]
      exact ih
theorem w_eqDict {H : Hp} {Q : VK} {a b : Addr} {ws : List (Str × Int)} (h1 : H a = some (.dK (wkv ws))) (h2 : H b = some (.dK (wkv ws))) (nd : (ws.map (·.1)).Nodup) (q : Q (.bl true) H) : rEqDA (.ref a) (.ref b) H Q :=
  ⟨a, b, _, _, rfl, rfl, h1, h2, rfl, fun p hp => ⟨valV_self nd p hp, flat_wkv ws p hp⟩, q⟩
theorem w_neDict {H : Hp} {Q : VK} {a b : Addr} {ws : List (Str × Int)} (h1 : H a = some (.dK (wkv ws))) (h2 : H b = some (.dK (wkv ws))) (nd : (ws.map (·.1)).Nodup) (q : Q (.bl false) H) : rNeDA (.ref a) (.ref b) H Q :=
  ⟨a, b, _, _, rfl, rfl, h1, h2, rfl, fun p hp => ⟨valV_self nd p hp, flat_wkv ws p hp⟩, q⟩
def rDictD : List V → Hp → VK → Prop := fun xs H Q => ∃ (a : Addr) (kvs : List (Key × V)), xs = [.ref a] ∧ Rd H a (.dK kvs) ∧ ∀ p, H p = none → Q (.ref p) (upd H p (.dK kvs))
theorem c_dictD {X : Cx} : CallR X (.type "dict") rDictD := call_dictD
theorem w_dictD {H : Hp} {Q : VK} {a : Addr} {kvs : List (Key × V)} (h : H a = some (.dK kvs)) (q : ∀ p H', H p = none → Same H H' → H' p = some (.dK kvs) → Q (.ref p) H') : rDictD [.ref a] H Q :=
  ⟨a, kvs, rfl, .inl h, fun p hp => q p _ hp (same_upd hp) upd_same⟩
/-! a written dict -/
def DspE (p : Addr) (Q : VK) (ps : List (V × V)) (H2 : Hp) : Prop := H2 p = some (.dK []) ∧ ∃ kvs : List (Key × V), ps = kvs.map (fun kv => (kV kv.1, kv.2)) ∧ kvs.length ≤ 15 ∧ Q (.ref p) (upd H2 p (.dK (mergeK [] kvs)))
theorem w_disp {σ : L2.St} {H : Hp} {Q : VK} {trs : List (TE × TE)} (h : ∀ p H', H p = none → Same H H' → H' p = some (.dK []) → tPairs trs σ H' fun ps H2 => DspE p Q ps H2) : tDisp trs σ H Q := fun p hp => h p _ hp (same_upd hp) upd_same
theorem w_pairs {σ : L2.St} {H : Hp} {tk tv : TE} {r : List (TE × TE)} {R : List (V × V) → Hp → Prop} (h : tk σ H fun x H1 => tv σ H1 fun y H2 => tPairs r σ H2 fun ps H3 => R ((x, y) :: ps) H3) : tPairs ((tk, tv) :: r) σ H R := h
theorem w_pairs0 {σ : L2.St} {H : Hp} {R : List (V × V) → Hp → Prop} (h : R [] H) : tPairs [] σ H R := h
theorem w_DspE {p : Addr} {Q : VK} {ps : List (V × V)} {H2 : Hp} (ws : List (Str × Int)) (nd : (ws.map (·.1)).Nodup) (e : H2 p = some (.dK [])) (ep : ps = (wkv ws).map (fun kv => (kV kv.1, kv.2))) (hl : ws.length ≤ 15) (q : ∀ H', H' p = some (.dK (wkv ws)) → (∀ H0, Same H0 H2 → H0 p = none → Same H0 H') → Q (.ref p) H') : DspE p Q ps H2 := by
  refine ⟨e, wkv ws, ep, by rw [wkv, List.length_map]; exact hl, ?_⟩
  have key : ∀ (r acc : List (Str × Int)), ((acc ++ r).map (·.1)).Nodup → mergeK (wkv acc) (wkv r) = wkv (acc ++ r) := by
    intro r
    induction r with
    | nil => intro acc _; rw [List.append_nil]; rfl
    | cons z r ih =>
      intro acc hn
      have hz : valV (wkv acc) (Sum.inr z.1) = none := by
        cases g : valV (wkv acc) (Sum.inr z.1) with
        | none => rfl
        | some v =>
          have m := valV_in g
          obtain ⟨u, hu, eu⟩ := List.mem_map.mp m
          obtain ⟨t, ht, rfl⟩ := List.mem_map.mp hu
          have e1 : t.1 = z.1 := Sum.inr.inj eu
          rw [List.map_append, List.map_cons] at hn
          have d := (List.nodup_append.mp hn).2.2 t.1 (List.mem_map.mpr ⟨t, ht, rfl⟩) z.1 (List.mem_cons_self ..)
          exact absurd e1 d
      show mergeK (putK (wkv acc) (Sum.inr z.1) (V.int z.2)) (wkv r) = _
      rw [putK_new _ hz]
      have e2 : wkv acc ++ [((Sum.inr z.1 : Key), V.int z.2)] = wkv (acc ++ [z]) := by
        unfold wkv
        rw [List.map_append]
        rfl
      rw [e2, ih (acc ++ [z]) (by rw [List.append_assoc]; exact hn), List.append_assoc]
      rfl
  have := key ws [] nd
  rw [show mergeK [] (wkv ws) = wkv ws from this]
  exact q _ upd_same fun H0 s n => same_mut s n
end Dpr

namespace Dpr
open PySem PySem.Spec PyProof.Rows L2
/-! a number put by its name -/
def putW (ws : List (Str × Int)) (n : Str) (v : Int) : List (Str × Int) :=
  if (ws.any fun kv => decide (kv.1 = n)) = true then ws.map (fun kv => if kv.1 = n then (kv.1, v) else kv) else ws ++ [(n, v)]
theorem put_wkv (ws : List (Str × Int)) (n : Str) (v : Int) : putK (wkv ws) (Sum.inr n) (V.int v) = wkv (putW ws n v) := by
  have e : ((wkv ws).any fun kv => decide (kv.1 = (Sum.inr n : Key))) = (ws.any fun kv => decide (kv.1 = n)) := by
    induction ws with
    | nil => rfl
    | cons p r ih =>
      show (decide ((Sum.inr p.1 : Key) = Sum.inr n) || (wkv r).any _) = (decide (p.1 = n) || r.any _)
      rw [ih]
      by_cases e : p.1 = n
      · rw [decide_eq_true e, decide_eq_true (by rw [e])]
      · rw [decide_eq_false e, decide_eq_false (fun z => e (Sum.inr.inj z))]
  unfold putK putW
  rw [e]
  split
  · unfold wkv
    rw [List.map_map, List.map_map]
    refine List.map_congr_left fun p _ => ?_
    show (if (Sum.inr p.1 : Key) = Sum.inr n then ((Sum.inr p.1 : Key), V.int v) else (Sum.inr p.1, V.int p.2)) = _
    by_cases e : p.1 = n
    · rw [if_pos (by rw [e])]
      show _ = (Sum.inr (if p.1 = n then (p.1, v) else p).1, V.int (if p.1 = n then (p.1, v) else p).2)
      rw [if_pos e]
    · rw [if_neg (fun z => e (Sum.inr.inj z))]
      show _ = (Sum.inr (if p.1 = n then (p.1, v) else p).1, V.int (if p.1 = n then (p.1, v) else p).2)
      rw [if_neg e]
  · unfold wkv
    rw [List.map_append]
    rfl
theorem putW_len (ws : List (Str × Int)) (n : Str) (v : Int) : (putW ws n v).length ≤ ws.length + 1 := by
  unfold putW
  split
  · rw [List.length_map]; omega
  · rw [List.length_append, List.length_cons, List.length_nil]; omega
theorem look_put (ws : List (Str × Int)) (n m : Str) (v : Int) : lookW (putW ws n v) m = if m = n then some v else lookW ws m := by
  have e := valV_wkv m (putW ws n v)
  rw [← put_wkv, valV_put, valV_wkv] at e
  by_cases h : m = n
  · rw [if_pos h]
    rw [if_pos (by rw [h])] at e
    cases g : lookW (putW ws n v) m with
    | none => rw [g] at e; cases e
    | some x => rw [g] at e; cases e; rfl
  · rw [if_neg h]
    rw [if_neg (fun z => h (Sum.inr.inj z))] at e
    cases g : lookW (putW ws n v) m with
    | none =>
      rw [g] at e
      cases g2 : lookW ws m with
      | none => rfl
      | some x => rw [g2] at e; cases e
    | some x =>
      rw [g] at e
      cases g2 : lookW ws m with
      | none => rw [g2] at e; cases e
      | some y => rw [g2] at e; cases e; rfl
theorem putW_keys {ws : List (Str × Int)} {n : Str} {v : Int} (h : (ws.any fun kv => decide (kv.1 = n)) = true) : (putW ws n v).map (·.1) = ws.map (·.1) := by
  unfold putW
  rw [if_pos h, List.map_map]
  refine List.map_congr_left fun p _ => ?_
  show (if p.1 = n then (p.1, v) else p).1 = p.1
  split <;> rfl
theorem putW_nodup {ws : List (Str × Int)} (n : Str) (v : Int) (h : (ws.map (·.1)).Nodup) : ((putW ws n v).map (·.1)).Nodup := by
  by_cases e : (ws.any fun kv => decide (kv.1 = n)) = true
  · rw [putW_keys e]
    exact h
  · unfold putW
    rw [if_neg e, List.map_append]
    refine List.nodup_append.mpr ⟨h, List.nodup_cons.mpr ⟨(fun z => by cases z), List.nodup_nil⟩, fun x hx y hy z => ?_⟩
    rw [List.mem_singleton.mp hy] at z
    obtain ⟨p, hp, ep⟩ := List.mem_map.mp hx
    exact e (List.any_eq_true.mpr ⟨p, hp, decide_eq_true (ep.trans z)⟩)
/-- names whose numbers are known -/
theorem has_put {N : Str → Prop} {ws : List (Str × Int)} {n : Str} {v : Int} (h : Has N ws) : Has (fun m => m = n ∨ N m) (putW ws n v) := by
  intro m hm
  rw [look_put]
  by_cases e : m = n
  · exact ⟨v, if_pos e⟩
  · rw [if_neg e]
    exact h m (hm.resolve_left e)
theorem Has.mono {N M : Str → Prop} {ws : List (Str × Int)} (h : Has N ws) (k : ∀ n, M n → N n) : Has M ws := fun n hn => h n (k n hn)
theorem has_keep {N : Str → Prop} {ws : List (Str × Int)} {n : Str} {v : Int} (h : Has N ws) : Has N (putW ws n v) := (has_put h).mono fun _ h => .inr h
def DPutB (D : Ends) (σ : L2.St) (v x y : V) (H3 : Hp) : Prop := ∃ a H4, x = .ref a ∧ DPut H3 a y v H4 ∧ D.nx σ H4
theorem w_dput {D : Ends} {σ : L2.St} {H : Hp} {td ty tv : TE} (h : tv σ H fun v H1 => td σ H1 fun x H2 => ty σ H2 fun y H3 => DPutB D σ v x y H3) : sDPut td ty tv D σ H := h
theorem w_DPutB {D : Ends} {σ : L2.St} {H : Hp} {a : Addr} {ws : List (Str × Int)} {n : Str} {v : Int} (h : H a = some (.dK (wkv ws))) (hl : ws.length ≤ 1000) (q : D.nx σ (upd H a (.dK (wkv (putW ws n v))))) : DPutB D σ (.int v) (.ref a) (.str n) H :=
  ⟨a, _, rfl, .k (k := Sum.inr n) h (by rw [wkv, List.length_map]; exact Nat.lt_of_le_of_lt hl (by rw [sizeLine_eq]; decide)), by rw [put_wkv]; exact q⟩
def rInsert : V → List V → Hp → VK → Prop := fun x vs H Q => ∃ (l : Addr) (xs : List V) (i : Int) (y : V), x = .ref l ∧ vs = [.int i, y] ∧ H l = some (.lst xs) ∧ xs.length < sizeLine ∧ 0 ≤ i ∧ i < 2 ^ 63 ∧ Q .non (upd H l (.lst (xs.take i.toNat ++ [y] ++ xs.drop i.toNat)))
theorem mt_ins0 {X : Cx} : MtR X "list.insert" rInsert := mt_insert
theorem w_insert {H : Hp} {Q : VK} {p : Addr} {xs : List V} {y : V} {i : Int} (e : H p = some (.lst xs)) (hz : xs.length ≤ 1000000) (hi : 0 ≤ i ∧ i ≤ 1000000) (q : Q .non (upd H p (.lst (xs.take i.toNat ++ [y] ++ xs.drop i.toNat)))) : rInsert (.ref p) [.int i, y] H Q :=
  ⟨p, xs, i, y, rfl, rfl, e, Nat.lt_of_le_of_lt hz (by rw [sizeLine_eq]; decide), hi.1, by omega, q⟩
theorem w_dnewK {σ : L2.St} {H : Hp} {Q : VK} (h : ∀ p H', H p = none → Same H H' → H' p = some (.dK (wkv [])) → Q (.ref p) H') : tDNewK σ H Q := fun p hp => h p _ hp (same_upd hp) upd_same
end Dpr

namespace Dpr
open PySem PySem.Spec PyProof.Rows L2
def RevB (R : It → Hp → Prop) (a b : Int) (H1 : Hp) : Prop := -(2 ^ 62) ≤ a ∧ a < 2 ^ 62 ∧ -(2 ^ 62) ≤ b ∧ b < 2 ^ 62 ∧ R (Itc (a + (((b - a).toNat : Nat) : Int) - 1) (-1) (b - a).toNat) H1
def RG1 (R : Int → Int → Hp → Prop) (x : V) (H1 : Hp) : Prop := ∃ i, x = .int i ∧ R 0 i H1
theorem w_revR {σ : L2.St} {H : Hp} {R : It → Hp → Prop} {tr : L2.St → Hp → (Int → Int → Hp → Prop) → Prop} (h : tr σ H (RevB R)) : iRevR tr σ H R := h
theorem w_rg1 {σ : L2.St} {H : Hp} {R : Int → Int → Hp → Prop} {ta : TE} (h : ta σ H (RG1 R)) : tRg1 ta σ H R := h
theorem w_RG1 {R : Int → Int → Hp → Prop} {b : Int} {H : Hp} (q : R 0 b H) : RG1 R (.int b) H := ⟨b, rfl, q⟩
theorem w_RevB {R : It → Hp → Prop} {a b : Int} {H : Hp} (h : -1000000 ≤ a ∧ a ≤ 1000000 ∧ -1000000 ≤ b ∧ b ≤ 1000000) (q : R (Itc (a + (((b - a).toNat : Nat) : Int) - 1) (-1) (b - a).toNat) H) : RevB R a b H := ⟨by omega, by omega, by omega, by omega, q⟩
theorem for_rc {lo c : Int} {n j : Nat} {t : TS} {D : Ends} {σ : L2.St} {H : Hp} (Pv : Nat → L2.St → Hp → Prop) (h0 : Pv 0 σ H)
    (hs : ∀ (i : Nat) σ' H', i < n → Pv i σ' H' → t { D with nx := Pv (i + 1), ct := Pv (i + 1), bk := D.nx } (σ'.set j (some (.int (lo + (i : Nat) * c)))) H') (hd : ∀ σ' H', Pv n σ' H' → D.nx σ' H') : ForB (Itc lo c n) (gName j) t D σ H :=
  for_rangeC Pv h0 hs hd
end Dpr

namespace Dpr
open PySem PySem.Spec PyProof.Rows L2
/-! a row from its second part on, the greatest of a list -/
theorem w_slT1 {K : PySem.W.Frag} {H : Hp} {Q : VK} {p : Addr} {x : V} {r : List V} (h : SqT K H p (x :: r)) (q : ∀ l H', H l = none → Same H H' → H' l = some (.tup r) → Q (.ref l) H') : rSlT K (.ref p) (some 1) none H Q := by
  refine ⟨p, _, rfl, h, fun z => ?_, fun l hl => ?_⟩
  · have e := z.1
    rw [show (1 : Int) = ((1 : Nat) : Int) from rfl, HT.sIx_nat, List.length_cons] at e
    omega
  · have e : cutV (x :: r) (some 1) none = r := cut_from (x :: r) 1 (by rw [List.length_cons]; omega)
    rw [e]
    exact q l _ hl (same_upd hl) upd_same
theorem w_maxL {K : PySem.W.Frag} {H : Hp} {Q : VK} {p : Addr} {ns : List Int} (h : SqL K H p (ns.map V.int)) (hn : 0 < ns.length) (q : ∀ m, m ∈ ns → (∀ y ∈ ns, y ≤ m) → Q (.int m) H) : rMax K [.ref p] H Q := ⟨p, ns, rfl, h, hn, q⟩
theorem c_maxK {X : Cx} (K : PySem.W.Frag) (e : X.K = K := by rfl) (hc : X.calm = true := by rfl) : CallR X (.builtin "max") (rMax K) := by subst e; exact cr_max hc
/-! lists told row by row -/
def runL (f : List Int → Row → Int) (rs : List Row) : List Int := rs.foldl (fun a r => a ++ [f a r]) []
theorem runL_snoc (f : List Int → Row → Int) (rs : List Row) (r : Row) : runL f (rs ++ [r]) = runL f rs ++ [f (runL f rs) r] := by
  unfold runL
  rw [List.foldl_append]
  rfl
theorem runL_len (f : List Int → Row → Int) (rs : List Row) : (runL f rs).length = rs.length := by
  have key : ∀ (rs : List Row) (acc : List Int), (rs.foldl (fun a r => a ++ [f a r]) acc).length = acc.length + rs.length := by
    intro rs
    induction rs with
    | nil => intro acc; rfl
    | cons r rs ih =>
      intro acc
      rw [List.foldl_cons, ih, List.length_append, List.length_singleton, List.length_cons]
      omega
  unfold runL
  rw [key]
  exact Nat.zero_add _
theorem runL_take (f : List Int → Row → Int) (rs : List Row) (i : Nat) : runL f (rs.take i) = (runL f rs).take i := by
  rcases Nat.le_total rs.length i with h | h
  · rw [List.take_of_length_le h, List.take_of_length_le (by rw [runL_len]; exact h)]
  · have key : ∀ (ss acc : List Int) (rs : List Row), ∃ t, rs.foldl (fun a r => a ++ [f a r]) acc = acc ++ t := by
      intro ss acc rs
      induction rs generalizing acc with
      | nil => exact ⟨[], (List.append_nil _).symm⟩
      | cons r rs ih =>
        obtain ⟨t, e⟩ := ih (acc ++ [f acc r])
        exact ⟨[f acc r] ++ t, by rw [List.foldl_cons, e, List.append_assoc]⟩
    obtain ⟨t, e⟩ := key [] (runL f (rs.take i)) (rs.drop i)
    have e2 : runL f rs = runL f (rs.take i) ++ t := by
      rw [← e]
      show rs.foldl _ [] = (rs.drop i).foldl _ ((rs.take i).foldl _ [])
      rw [← List.foldl_append, List.take_append_drop]
    rw [e2, List.take_left' (by rw [runL_len, List.length_take]; omega)]
theorem runL_get (f : List Int → Row → Int) {rs : List Row} {i : Nat} {r : Row} (h : rs[i]? = some r) : (runL f rs)[i]? = some (f ((runL f rs).take i) r) := by
  have hi := (List.getElem?_eq_some_iff.mp h).1
  have e : (runL f rs).take (i + 1) = (runL f rs).take i ++ [f ((runL f rs).take i) r] := by
    rw [← runL_take, take_snoc h, runL_snoc, runL_take]
  have hl : ((runL f rs).take i).length = i := by rw [List.length_take, runL_len]; omega
  have e2 : ((runL f rs).take (i + 1))[i]? = some (f ((runL f rs).take i) r) := by
    rw [e, List.getElem?_append_right (by omega), hl, Nat.sub_self]
    rfl
  rw [List.getElem?_take, if_pos (Nat.lt_succ_self i)] at e2
  exact e2
/-! depths -/
def ownR : Row → List Nat
  | .inv a => [a]
  | .bin _ a b => [a, b]
  | _ => []
def natI (ws : List Nat) : List Int := ws.map fun (z : Nat) => (z : Int)
theorem natI_len (ws : List Nat) : (natI ws).length = ws.length := List.length_map ..
theorem natI_get {ws : List Nat} {i : Nat} {x : Int} (h : (natI ws)[i]? = some x) : ∃ z : Nat, ws[i]? = some z ∧ x = (z : Int) := by
  unfold natI at h
  rw [List.getElem?_map] at h
  cases e : ws[i]? with
  | none => rw [e] at h; cases h
  | some y => rw [e] at h; exact ⟨y, rfl, (Option.some.inj h).symm⟩
def top2 (x y : Int) : Int := if y > x then y else x
def deepI (ds : List Int) (r : Row) : Int := (ownR r).foldl (fun d w => top2 d (ds.getD w 0 + 1)) 0
def depthL (rs : List Row) : List Int := runL deepI rs
theorem own_lt {N : Str → Prop} {i : Nat} {r : Row} (h : RowOk N i r) : ∀ w ∈ ownR r, w < i := by
  intro w hw
  cases r with
  | inv a => rw [List.mem_singleton.mp hw]; exact h
  | bin o a b =>
    rcases List.mem_cons.mp hw with e | e
    · rw [e]; exact h.1
    · rw [List.mem_singleton.mp e]; exact h.2
  | _ => cases hw
theorem own_len (r : Row) : (ownR r).length ≤ 2 := by
  cases r <;> exact Nat.le_of_ble_eq_true rfl
theorem top_of (g : Nat → Int) : ∀ (ws : List Nat) (x m : Int), m ∈ x :: ws.map g → (∀ y ∈ x :: ws.map g, y ≤ m) → m = ws.foldl (fun d w => top2 d (g w)) x
  | [], x, m, h, _ => List.mem_singleton.mp h
  | w :: r, x, m, h, hm => by
    show m = r.foldl (fun d w => top2 d (g w)) (top2 x (g w))
    have a1 := hm x (List.mem_cons_self ..)
    have a2 := hm (g w) (List.mem_cons_of_mem _ (List.mem_cons_self ..))
    refine top_of g r _ m ?_ fun y hy => ?_
    · unfold top2
      rcases List.mem_cons.mp h with e | e
      · subst e
        rw [if_neg (by omega)]
        exact List.mem_cons_self ..
      · rcases List.mem_cons.mp e with e | e
        · by_cases c : g w > x
          · rw [if_pos c, e]
            exact List.mem_cons_self ..
          · rw [if_neg c, show m = x by omega]
            exact List.mem_cons_self ..
        · exact List.mem_cons_of_mem _ e
    · rcases List.mem_cons.mp hy with e | e
      · rw [e]
        unfold top2
        split
        · exact a2
        · exact a1
      · exact hm y (List.mem_cons_of_mem _ (List.mem_cons_of_mem _ e))
end Dpr

namespace Dpr
open PySem PySem.Spec PyProof.Rows L2
/-! ways -/
def dep (rs : List Row) (x : Nat) : Int := (depthL rs).getD x 0
theorem fold_top (g : Nat → Int) : ∀ (ws : List Nat) (x : Int), ws.foldl (fun d w => top2 d (g w)) x = x ∨ ∃ w ∈ ws, ws.foldl (fun d w => top2 d (g w)) x = g w
  | [], x => .inl rfl
  | w :: r, x => by
    show r.foldl (fun d w => top2 d (g w)) (top2 x (g w)) = x ∨ ∃ z ∈ w :: r, r.foldl (fun d w => top2 d (g w)) (top2 x (g w)) = g z
    rcases fold_top g r (top2 x (g w)) with e | ⟨z, hz, e⟩
    · rw [e]
      unfold top2
      split
      · exact .inr ⟨w, List.mem_cons_self .., rfl⟩
      · exact .inl rfl
    · exact .inr ⟨z, List.mem_cons_of_mem _ hz, e⟩
theorem fold_top_le (g : Nat → Int) : ∀ (ws : List Nat) (x : Int), x ≤ ws.foldl (fun d w => top2 d (g w)) x ∧ ∀ w ∈ ws, g w ≤ ws.foldl (fun d w => top2 d (g w)) x
  | [], x => ⟨Int.le_refl _, fun w h => by cases h⟩
  | w :: r, x => by
    have ih := fold_top_le g r (top2 x (g w))
    have t1 : x ≤ top2 x (g w) ∧ g w ≤ top2 x (g w) := by unfold top2; split <;> omega
    refine ⟨Int.le_trans t1.1 ih.1, fun z hz => ?_⟩
    rcases List.mem_cons.mp hz with e | e
    · rw [e]; exact Int.le_trans t1.2 ih.1
    · exact ih.2 z e
theorem fold_congr {g h : Nat → Int} : ∀ (ws : List Nat) (x : Int), (∀ w ∈ ws, g w = h w) → ws.foldl (fun d w => top2 d (g w)) x = ws.foldl (fun d w => top2 d (h w)) x
  | [], _, _ => rfl
  | w :: r, x, e => by
    show r.foldl (fun d w => top2 d (g w)) (top2 x (g w)) = r.foldl (fun d w => top2 d (h w)) (top2 x (h w))
    rw [e w (List.mem_cons_self ..)]
    exact fold_congr r _ fun z hz => e z (List.mem_cons_of_mem _ hz)
theorem dep_eq {N : Str → Prop} {rs : List Row} (ok : RowsOk N rs) {x : Nat} {r : Row} (h : rs[x]? = some r) : dep rs x = (ownR r).foldl (fun d w => top2 d (dep rs w + 1)) 0 := by
  unfold dep
  have e := runL_get deepI h
  rw [List.getD_eq_getElem?_getD]
  show ((runL deepI rs)[x]?).getD 0 = _
  rw [e]
  show deepI ((runL deepI rs).take x) r = _
  unfold deepI
  refine fold_congr _ _ fun w hw => ?_
  have hlt := own_lt (ok x r h) w hw
  show ((runL deepI rs).take x).getD w 0 + 1 = (runL deepI rs).getD w 0 + 1
  rw [List.getD_eq_getElem?_getD, List.getD_eq_getElem?_getD, List.getElem?_take, if_pos hlt]
theorem dep_nn {N : Str → Prop} {rs : List Row} (ok : RowsOk N rs) (x : Nat) : 0 ≤ dep rs x := by
  cases e : rs[x]? with
  | some r => rw [dep_eq ok e]; exact (fold_top_le _ _ _).1
  | none =>
    have h : rs.length ≤ x := List.getElem?_eq_none_iff.mp e
    unfold dep
    rw [List.getD_eq_getElem?_getD, List.getElem?_eq_none (by show (runL deepI rs).length ≤ x; rw [runL_len]; exact h)]
    exact Int.le_refl 0
theorem dep_le {N : Str → Prop} {rs : List Row} (ok : RowsOk N rs) : ∀ (n x : Nat), x < n → dep rs x ≤ x
  | 0, x, h => by omega
  | n + 1, x, h => by
    cases e : rs[x]? with
    | some r =>
      rw [dep_eq ok e]
      rcases fold_top (fun z => dep rs z + 1) (ownR r) 0 with q | ⟨z, hz, q⟩
      · rw [q]; omega
      · rw [q]
        have hlt := own_lt (ok x r e) z hz
        have ih := dep_le ok n z (by omega)
        omega
    | none =>
      have h : rs.length ≤ x := List.getElem?_eq_none_iff.mp e
      unfold dep
      rw [List.getD_eq_getElem?_getD, List.getElem?_eq_none (by show (runL deepI rs).length ≤ x; rw [runL_len]; exact h)]
      show (0 : Int) ≤ x
      omega
def Way (rs : List Row) (w : Nat) (ws : List Nat) : Prop := ws[0]? = some w ∧ (∀ (k x y : Nat), ws[k]? = some x → ws[k + 1]? = some y → ∃ r, rs[x]? = some r ∧ y ∈ ownR r) ∧ ∀ (k x : Nat), ws[k]? = some x → x < rs.length ∧ dep rs x = dep rs w - k
theorem Way.one {rs : List Row} {w : Nat} (h : w < rs.length) : Way rs w [w] :=
  ⟨rfl, fun k x y _ hy => (by cases hy), fun k x hx => (by
    cases k with
    | zero => cases hx; exact ⟨h, by omega⟩
    | succ k => cases hx)⟩
theorem Way.snoc {rs : List Row} {w x y : Nat} {us : List Nat} {r : Row} (h : Way rs w (us ++ [x])) (hr : rs[x]? = some r) (hy : y ∈ ownR r) (hl : y < rs.length) (hd : dep rs y = dep rs x - 1) : Way rs w (us ++ [x] ++ [y]) := by
  have hux : (us ++ [x])[us.length]? = some x := by rw [List.getElem?_append_right (Nat.le_refl _), Nat.sub_self]; rfl
  have hlen : (us ++ [x]).length = us.length + 1 := by rw [List.length_append]; rfl
  refine ⟨by rw [List.getElem?_append_left (by omega)]; exact h.1, fun k a b ha hb => ?_, fun k a ha => ?_⟩
  · have hb' := (List.getElem?_eq_some_iff.mp hb).1
    rw [List.length_append, List.length_singleton, hlen] at hb'
    by_cases e : k + 1 < us.length + 1
    · rw [List.getElem?_append_left (by omega)] at ha hb
      exact h.2.1 k a b ha hb
    · have ek : k = us.length := by omega
      subst ek
      rw [List.getElem?_append_left (by omega), hux] at ha
      cases ha
      rw [List.getElem?_append_right (by omega), hlen, Nat.sub_self] at hb
      cases hb
      exact ⟨r, hr, hy⟩
  · have ha' := (List.getElem?_eq_some_iff.mp ha).1
    rw [List.length_append, List.length_singleton, hlen] at ha'
    by_cases e : k < us.length + 1
    · rw [List.getElem?_append_left (by omega)] at ha
      exact h.2.2 k a ha
    · have ek : k = us.length + 1 := by omega
      subst ek
      rw [List.getElem?_append_right (by omega), hlen, Nat.sub_self] at ha
      cases ha
      have hx := (h.2.2 us.length x hux).2
      exact ⟨hl, by omega⟩
/-- a way from its first wire on -/
def WayR (rs : List Row) (w : Nat) (ws : List Nat) : Prop := (ws.length : Int) = dep rs w + 1 ∧ (∀ x ∈ ws, x < rs.length) ∧ (∀ (k x y : Nat), ws[k]? = some y → ws[k + 1]? = some x → ∃ r, rs[x]? = some r ∧ y ∈ ownR r) ∧ (∃ us, ws = us ++ [w]) ∧ ∃ z, ws[0]? = some z ∧ dep rs z = 0
theorem Way.rev {rs : List Row} {w x : Nat} {us : List Nat} (h : Way rs w (us ++ [x])) (hx : dep rs x = 0) : WayR rs w (us ++ [x]).reverse := by
  have hux : (us ++ [x])[us.length]? = some x := by rw [List.getElem?_append_right (Nat.le_refl _), Nat.sub_self]; rfl
  have hlen : (us ++ [x]).length = us.length + 1 := by rw [List.length_append]; rfl
  have h0 := (h.2.2 us.length x hux).2
  refine ⟨by rw [List.length_reverse, hlen]; omega, fun z hz => ?_, fun k a b ha hb => ?_, ?_, x, ?_, hx⟩
  · obtain ⟨k, hk⟩ := List.mem_iff_getElem?.mp (List.mem_reverse.mp hz)
    exact (h.2.2 k z hk).1
  · have hb' := (List.getElem?_eq_some_iff.mp hb).1
    rw [List.length_reverse, hlen] at hb'
    rw [List.getElem?_reverse (by omega), hlen] at ha hb
    refine h.2.1 (us.length - (k + 1)) a b ?_ ?_
    · rw [show us.length - (k + 1) = us.length + 1 - 1 - (k + 1) by omega]; exact hb
    · rw [show us.length - (k + 1) + 1 = us.length + 1 - 1 - k by omega]; exact ha
  · have e := h.1
    cases us with
    | nil => cases e; exact ⟨[], rfl⟩
    | cons u us =>
      cases e
      exact ⟨(us ++ [x]).reverse, by rw [List.cons_append, List.reverse_cons]⟩
  · rw [List.getElem?_reverse (by omega), hlen]
    exact hux
theorem nat_last (us : List Nat) (x : Nat) : atI ((natI (us ++ [x])).map V.int) (-1) = some (.int (x : Int)) := by
  unfold natI
  rw [List.map_append, List.map_append]
  exact atI_last _ _
theorem nat_at {ws : List Nat} {k x : Nat} (h : ws[k]? = some x) : atI ((natI ws).map V.int) (k : Int) = some (.int (x : Int)) := atI_nat (by
  unfold natI
  rw [List.map_map, List.getElem?_map, h]
  rfl)
theorem nat_snoc (ws : List Nat) (x : Nat) : (natI ws).map V.int ++ [V.int (x : Int)] = (natI (ws ++ [x])).map V.int := by
  unfold natI
  rw [List.map_append, List.map_append]
  rfl
theorem nat_rev (ws : List Nat) : ((natI ws).map V.int).reverse = (natI ws.reverse).map V.int := by
  unfold natI
  rw [List.map_reverse, List.map_reverse]
end Dpr

namespace Dpr
open PySem PySem.Spec PyProof.Rows L2
theorem ib_abs (x : Int) (n : Nat) : Builtin.Int.intBits x ≤ n ↔ x.natAbs < 2 ^ n := by
  have e : Builtin.Int.intBits x = Builtin.Int.intBits (x.natAbs : Int) := by
    unfold Builtin.Int.intBits
    by_cases h : x = 0
    · subst h; rfl
    · rw [if_neg (by simpa using h), if_neg (by simpa using h)]
      rfl
  rw [e, ib_le (by omega) n]
  rw [show ((2 : Int) ^ n) = ((2 ^ n : Nat) : Int) by rw [Int.natCast_pow]; rfl]
  exact Int.ofNat_lt
theorem bits_add {c j : Int} {n : Nat} (h : Builtin.Int.intBits c ≤ n) (hj : Builtin.Int.intBits j ≤ n) : Builtin.Int.intBits (c + j) ≤ n + 1 := by
  rw [ib_abs] at *
  rw [Nat.pow_succ]
  omega
/-! beats -/
def beatI (ws : List (Str × Int)) (prev bits : List Int) (r : Row) : Int := match r with
  | .lat a => prev.getD a 0
  | r => gateI ws bits r
def beatL (rs : List Row) (prev : List Int) (ws : List (Str × Int)) : List Int := runL (beatI ws prev) rs
def beatsL (rs : List Row) (wss : List (List (Str × Int))) : List (List Int) := wss.foldl (fun acc ws => acc ++ [beatL rs (acc.getLastD []) ws]) []
theorem beatsL_snoc (rs : List Row) (wss : List (List (Str × Int))) (ws : List (Str × Int)) : beatsL rs (wss ++ [ws]) = beatsL rs wss ++ [beatL rs ((beatsL rs wss).getLastD []) ws] := by
  unfold beatsL
  rw [List.foldl_append]
  rfl
theorem beat_01 {N : Str → Prop} {n : Nat} {r : Row} (ws : List (Str × Int)) {prev bs : List Int} (hp : All01 prev) (h : All01 bs) (ok : RowOk N n r) : is01 (beatI ws prev bs r) := by
  cases r with
  | lat a => exact all01_get hp a
  | fix b => exact gateI_01 (r := .fix b) ws h ok
  | inn m k => exact gateI_01 (r := .inn m k) ws h ok
  | inv a => exact gateI_01 (r := .inv a) ws h ok
  | bin o a b => exact gateI_01 (r := .bin o a b) ws h ok
theorem beatL_01 {N : Str → Prop} (ws : List (Str × Int)) {prev : List Int} (hp : All01 prev) {rs : List Row} (ok : RowsOk N rs) : ∀ i, All01 (runL (beatI ws prev) (rs.take i))
  | 0 => fun x hx => by cases hx
  | i + 1 => by
    have ih := beatL_01 ws hp ok i
    cases e : rs[i]? with
    | none =>
      have : rs.take (i + 1) = rs.take i := by rw [List.take_add_one, e]; exact List.append_nil _
      rw [this]
      exact ih
    | some r =>
      rw [take_snoc e, runL_snoc]
      intro x hx
      rcases List.mem_append.mp hx with q | q
      · exact ih x q
      · rw [List.mem_singleton.mp q]
        exact beat_01 ws hp ih (ok i r e)
theorem A2.mono2 {α β : Type} {R S : α → β → Prop} {xs : List α} {ys : List β} (h : A2 R xs ys) (k : ∀ x y, x ∈ xs → R x y → S x y) : A2 S xs ys := ⟨h.1, fun i x y a b => k x y (List.mem_of_getElem? a) (h.2 i x y a b)⟩
def DictAt (H : Hp) (p : Addr) (ws : List (Str × Int)) : Prop := H p = some (.dK (wkv ws))
def IntsAt (H : Hp) (p : Addr) (bs : List Int) : Prop := H p = some (.lst (bs.map V.int))
def DictsL (K : PySem.W.Frag) (H : Hp) (a : Addr) (wss : List (List (Str × Int))) : Prop := ∃ ps : List Addr, SqL K H a (ps.map V.ref) ∧ A2 (DictAt H) ps wss
/-- what stood at the beat before: nothing, or a list -/
def Before (H : Hp) (n : Nat) (prev : List Int) (bv : V) : Prop := (bv = .non ∧ prev = []) ∨ ∃ q, bv = .ref q ∧ IntsAt H q prev ∧ prev.length = n
theorem Before.same {H H' : Hp} {n : Nat} {prev : List Int} {bv : V} (s : Same H H') (h : Before H n prev bv) : Before H' n prev bv := by
  rcases h with h | ⟨q, h1, h2, h3⟩
  · exact .inl h
  · exact .inr ⟨q, h1, s _ _ h2, h3⟩
def rIsNo : R2 := fun x y H Q => y = .non ∧ Q (.bl (decide (x = .non))) H
def rNotNo : R2 := fun x y H Q => y = .non ∧ Q (.bl (!decide (x = .non))) H
theorem op_isNo {X : Cx} : OpR X (compareOp .Is) rIsNo := op_isN
theorem op_notNo {X : Cx} : OpR X (compareOp .IsNot) rNotNo := op_notN
theorem w_isNo1 {H : Hp} {Q : VK} (h : Q (.bl true) H) : rIsNo .non .non H Q := ⟨rfl, h⟩
theorem w_isNo0 {p : Addr} {H : Hp} {Q : VK} (h : Q (.bl false) H) : rIsNo (.ref p) .non H Q := ⟨rfl, by rw [decide_eq_false (fun z => by cases z)]; exact h⟩
theorem w_notNo1 {H : Hp} {Q : VK} (h : Q (.bl false) H) : rNotNo .non .non H Q := ⟨rfl, h⟩
theorem w_notNo0 {p : Addr} {H : Hp} {Q : VK} (h : Q (.bl true) H) : rNotNo (.ref p) .non H Q := ⟨rfl, by rw [decide_eq_false (fun z => by cases z)]; exact h⟩
end Dpr

namespace Dpr
open PySem PySem.Spec PyProof.Rows L2
/-! objects of the program's classes -/
def IsC (K : PySem.W.Frag) (c : Str) (C : Addr) : Prop := PySem.W.nsIn K mainGlobals c = some (some (.ref C))
theorem IsC.one {K : PySem.W.Frag} {c : Str} {C D : Addr} (h : IsC K c C) (k : IsC K c D) : C = D := by
  unfold IsC at h k
  rw [h] at k
  cases k
  rfl
theorem lookup_hd {f : Str} {v : V} {r : List (Str × V)} : ((f, v) :: r).lookup f = some v := List.lookup_cons_self ..
theorem lookup_tl {f g : Str} {v : V} {r : List (Str × V)} {o : Option V} (h : (f == g) = false) (k : r.lookup f = o) : ((g, v) :: r).lookup f = o := by
  rw [List.lookup_cons, h]
  exact k
theorem lookup_no {f : Str} : ([] : List (Str × V)).lookup f = none := rfl
section
variable {K : PySem.W.Frag} {σ : L2.St} {H : Hp} {Q : VK} {D : Ends} {ta tv : TE} {t : TA} {f m : Str}
def FldB (K : PySem.W.Frag) (f : Str) (Q : VK) (x : V) (H1 : Hp) : Prop := ∃ a C dx fs v, x = .ref a ∧ H1 a = some (.ins C dx fs) ∧ Cls K C ∧ NoAttr K C f ∧ fs.lookup f = some v ∧ Q v H1
theorem w_fld (h : ta σ H (FldB K f Q)) : tFld K ta f σ H Q := h
theorem w_FldB {a C dx : Addr} {fs : List (Str × V)} {v : V} (h : H a = some (.ins C dx fs)) (c : Cls K C) (n : NoAttr K C f) (e : fs.lookup f = some v) (q : Q v H) : FldB K f Q (.ref a) H := ⟨a, C, dx, fs, v, rfl, h, c, n, e, q⟩
def SFldB (K : PySem.W.Frag) (f : Str) (D : Ends) (σ : L2.St) (y x : V) (H2 : Hp) : Prop := ∃ a C dx fs, x = .ref a ∧ H2 a = some (.ins C dx fs) ∧ Cls K C ∧ NoAttr K C f ∧ fs.length < 1000 ∧ D.nx σ (upd H2 a (.ins C dx (putF f y fs)))
theorem w_sfld (h : tv σ H fun y H1 => ta σ H1 fun x H2 => SFldB K f D σ y x H2) : sFld K ta tv f D σ H := h
theorem w_SFldB {a C dx : Addr} {fs : List (Str × V)} {y : V} (h : H a = some (.ins C dx fs)) (c : Cls K C) (n : NoAttr K C f) (l : fs.length < 1000) (q : D.nx σ (upd H a (.ins C dx (putF f y fs)))) : SFldB K f D σ y (.ref a) H := ⟨a, C, dx, fs, rfl, h, c, n, l, q⟩
def MethB (C : Addr) (m : Str) (sp : Sp) (dvs : List V) (E : XK) (t : TA) (σ : L2.St) (Q : VK) (x : V) (H1 : Hp) : Prop := ∃ a dx fs, x = .ref a ∧ H1 a = some (.ins C dx fs) ∧ fs.lookup m = none ∧ t σ H1 fun vs H2 => sp (x :: (vs ++ dvs)) H2 Q E
theorem w_meth {C : Addr} {sp : Sp} {dvs : List V} {E : XK} (h : ta σ H (MethB C m sp dvs E t σ Q)) : tMeth C m sp dvs E ta t σ H Q := h
theorem w_MethB {C a dx : Addr} {fs : List (Str × V)} {sp : Sp} {dvs : List V} {E : XK} (h : H a = some (.ins C dx fs)) (e : fs.lookup m = none) (q : t σ H fun vs H2 => sp (.ref a :: (vs ++ dvs)) H2 Q E) : MethB C m sp dvs E t σ Q (.ref a) H := ⟨a, dx, fs, rfl, h, e, q⟩
theorem w_make {C : Addr} {sp : Sp} {dvs : List V} {E : XK} (h : t σ H fun vs H1 => ∀ x dx, H1 x = none → H1 dx = none → dx ≠ x → sp (.ref x :: (vs ++ dvs)) (upd (upd H1 dx (.own x)) x (.ins C dx [])) (fun v H2 => v = .non ∧ Q (.ref x) H2) E) : tMake C sp dvs E t σ H Q := h
end
/-- a sheet, its rows at r -/
def SheetAt (K : PySem.W.Frag) (H : Hp) (s r : Addr) : Prop := ∃ C dx, H s = some (.ins C dx [("rows", .ref r)]) ∧ IsC K "Sheet" C
end Dpr

namespace Dpr
open PySem PySem.Spec PyProof.Rows L2
/-! rows as keys of a dict -/
def rowK : Row → List Key
  | .fix b => [.inr "fix", .inl b]
  | .inn n k => [.inr "in", .inr n, .inl (k : Int)]
  | .inv a => [.inr "not", .inl (a : Int)]
  | .bin o a b => [.inr (bopS o), .inl (a : Int), .inl (b : Int)]
  | .lat a => [.inr "latch", .inl (a : Int)]
theorem rowK_V (r : Row) : rowV r = (rowK r).map kV := by cases r <;> rfl
theorem bopS_inj {o p : Bop} (h : bopS o = bopS p) : o = p := by
  cases o <;> cases p <;> first | rfl | exact absurd h (by decide +kernel)
theorem bopS_odd (o : Bop) : bopS o ≠ "fix" ∧ bopS o ≠ "in" ∧ bopS o ≠ "not" ∧ bopS o ≠ "latch" := by
  cases o <;> decide +kernel
theorem rowK_inj {r t : Row} (h : rowK r = rowK t) : r = t := by
  have f1 : ("fix" : Str) ≠ "not" := by decide +kernel
  have f2 : ("fix" : Str) ≠ "latch" := by decide +kernel
  have f3 : ("not" : Str) ≠ "latch" := by decide +kernel
  have f4 : ("in" : Str) ≠ "fix" := by decide +kernel
  cases r with
  | fix b =>
    cases t with
    | fix c => unfold rowK at h; simp only [List.cons.injEq, Sum.inl.injEq, and_true, true_and] at h; rw [h]
    | inn n k => cases congrArg List.length h
    | inv a => exact absurd (Sum.inr.inj (List.cons.inj h).1) f1
    | bin o a c => cases congrArg List.length h
    | lat a => exact absurd (Sum.inr.inj (List.cons.inj h).1) f2
  | inn n k =>
    cases t with
    | inn m j =>
      unfold rowK at h
      simp only [List.cons.injEq, Sum.inl.injEq, Sum.inr.injEq, and_true, true_and] at h
      obtain ⟨h1, h2⟩ := h
      rw [h1, show k = j by omega]
    | bin o a c => exact absurd (Sum.inr.inj (List.cons.inj h).1).symm (bopS_odd o).2.1
    | _ => cases congrArg List.length h
  | inv a =>
    cases t with
    | fix c => exact absurd (Sum.inr.inj (List.cons.inj h).1).symm f1
    | inv c => unfold rowK at h; simp only [List.cons.injEq, Sum.inl.injEq, and_true, true_and] at h; rw [show a = c by omega]
    | lat c => exact absurd (Sum.inr.inj (List.cons.inj h).1) f3
    | _ => cases congrArg List.length h
  | bin o a b =>
    cases t with
    | inn m j => exact absurd (Sum.inr.inj (List.cons.inj h).1) (bopS_odd o).2.1
    | bin p c d =>
      unfold rowK at h
      simp only [List.cons.injEq, Sum.inl.injEq, Sum.inr.injEq, and_true] at h
      obtain ⟨h1, h2, h3⟩ := h
      rw [bopS_inj h1, show a = c by omega, show b = d by omega]
    | _ => cases congrArg List.length h
  | lat a =>
    cases t with
    | fix c => exact absurd (Sum.inr.inj (List.cons.inj h).1).symm f2
    | inv c => exact absurd (Sum.inr.inj (List.cons.inj h).1).symm f3
    | lat c => unfold rowK at h; simp only [List.cons.injEq, Sum.inl.injEq, and_true, true_and] at h; rw [show a = c by omega]
    | _ => cases congrArg List.length h
def placesFrom (n : Nat) : List Row → List (List Key × V)
  | [] => []
  | r :: rs => (rowK r, .int (n : Int)) :: placesFrom (n + 1) rs
def placesK (ks : List Row) : List (List Key × V) := placesFrom 0 ks
theorem placesFrom_none {r : Row} : ∀ (ks : List Row) (n : Nat), r ∉ ks → valV (placesFrom n ks) (rowK r) = none
  | [], _, _ => rfl
  | k :: ks, n, h => by
    rw [show placesFrom n (k :: ks) = (rowK k, V.int (n : Int)) :: placesFrom (n + 1) ks from rfl, valV_neg (fun z => h (by rw [← rowK_inj z]; exact List.mem_cons_self ..))]
    exact placesFrom_none ks (n + 1) fun z => h (List.mem_cons_of_mem _ z)
theorem placesFrom_some {r : Row} : ∀ (ks : List Row) (n i : Nat), ks.Nodup → ks[i]? = some r → valV (placesFrom n ks) (rowK r) = some (.int ((n + i : Nat) : Int))
  | [], _, _, _, h => by cases h
  | k :: ks, n, 0, _, h => by
    have e : k = r := Option.some.inj h
    rw [show placesFrom n (k :: ks) = (rowK k, V.int (n : Int)) :: placesFrom (n + 1) ks from rfl, valV_pos (by rw [e])]
    rfl
  | k :: ks, n, i + 1, nd, h => by
    have h' : ks[i]? = some r := h
    have ne : ¬ rowK k = rowK r := fun z => (List.nodup_cons.mp nd).1 (by rw [rowK_inj z]; exact List.mem_of_getElem? h')
    rw [show placesFrom n (k :: ks) = (rowK k, V.int (n : Int)) :: placesFrom (n + 1) ks from rfl, valV_neg ne, placesFrom_some ks (n + 1) i (List.nodup_cons.mp nd).2 h', show n + 1 + i = n + (i + 1) by omega]
theorem placesFrom_snoc (r : Row) : ∀ (ks : List Row) (n : Nat), placesFrom n (ks ++ [r]) = placesFrom n ks ++ [(rowK r, .int ((n + ks.length : Nat) : Int))]
  | [], n => rfl
  | k :: ks, n => by
    show (rowK k, V.int (n : Int)) :: placesFrom (n + 1) (ks ++ [r]) = (rowK k, V.int (n : Int)) :: (placesFrom (n + 1) ks ++ _)
    rw [placesFrom_snoc r ks (n + 1), List.length_cons, show n + 1 + ks.length = n + (ks.length + 1) by omega]
theorem placesFrom_len : ∀ (ks : List Row) (n : Nat), (placesFrom n ks).length = ks.length
  | [], _ => rfl
  | _ :: ks, n => by show (placesFrom (n + 1) ks).length + 1 = ks.length + 1; rw [placesFrom_len]
/-! the kept rows -/
def fixAt (ks : List Row) (w : Nat) : Prop := ∃ b, ks[w]? = some (.fix b)
def invAt (ks : List Row) (w : Nat) : Prop := ∃ a, ks[w]? = some (.inv a)
def FormR (ks : List Row) : Row → Prop
  | .inv a => ¬ fixAt ks a ∧ ¬ invAt ks a
  | .bin _ a b => a < b ∧ ¬ fixAt ks a ∧ ¬ fixAt ks b
  | _ => True
structure KOk (N : Str → Prop) (old ks : List Row) : Prop where
  ok : RowsOk N ks
  nl : NoLats ks
  nd : ks.Nodup
  form : ∀ r ∈ ks, FormR ks r
  ins : ∀ n k, Row.inn n k ∈ ks → Row.inn n k ∈ old
def Grow (ks ks' : List Row) : Prop := ∃ t, ks' = ks ++ t ∧ t.length ≤ 1
theorem Grow.refl (ks : List Row) : Grow ks ks := ⟨[], (List.append_nil ks).symm, Nat.zero_le _⟩
theorem Grow.len {ks ks' : List Row} (h : Grow ks ks') : ks.length ≤ ks'.length ∧ ks'.length ≤ ks.length + 1 := by
  obtain ⟨t, rfl, h⟩ := h
  rw [List.length_append]
  omega
theorem Grow.get {ks ks' : List Row} (h : Grow ks ks') {w : Nat} (hw : w < ks.length) : ks'[w]? = ks[w]? := by
  obtain ⟨t, rfl, h⟩ := h
  exact List.getElem?_append_left hw
def Fit (N : Str → Prop) (old ks : List Row) (r : Row) : Prop := RowOk N ks.length r ∧ noLat r ∧ FormR ks r ∧ ∀ n k, r = .inn n k → r ∈ old
theorem form_grow {N : Str → Prop} {ks t : List Row} {r : Row} (ok : RowOk N ks.length r) (h : FormR ks r) : FormR (ks ++ t) r := by
  have g : ∀ a, a < ks.length → (ks ++ t)[a]? = ks[a]? := fun a ha => List.getElem?_append_left ha
  cases r with
  | inv a =>
    have ha : a < ks.length := ok
    exact ⟨fun ⟨b, e⟩ => h.1 ⟨b, by rw [← g a ha]; exact e⟩, fun ⟨b, e⟩ => h.2 ⟨b, by rw [← g a ha]; exact e⟩⟩
  | bin o a b =>
    exact ⟨h.1, fun ⟨c, e⟩ => h.2.1 ⟨c, by rw [← g a ok.1]; exact e⟩, fun ⟨c, e⟩ => h.2.2 ⟨c, by rw [← g b ok.2]; exact e⟩⟩
  | _ => exact True.intro
theorem rowOk_le {N : Str → Prop} {n m : Nat} {r : Row} (h : RowOk N n r) (l : n ≤ m) : RowOk N m r := by
  cases r with
  | fix b => exact h
  | inn n k => exact h
  | inv a => exact Nat.lt_of_lt_of_le h l
  | bin o a b => exact ⟨Nat.lt_of_lt_of_le h.1 l, Nat.lt_of_lt_of_le h.2 l⟩
  | lat a => exact Nat.lt_of_lt_of_le h l
theorem KOk.rowOk {N : Str → Prop} {old ks : List Row} (k : KOk N old ks) {r : Row} (h : r ∈ ks) : RowOk N ks.length r := by
  obtain ⟨i, hi⟩ := List.mem_iff_getElem?.mp h
  exact rowOk_le (k.ok i r hi) (Nat.le_of_lt (List.getElem?_eq_some_iff.mp hi).1)
theorem KOk.put {N : Str → Prop} {old ks : List Row} {r : Row} (k : KOk N old ks) (f : Fit N old ks r) (new : r ∉ ks) : KOk N old (ks ++ [r]) := by
  refine ⟨k.ok.snoc f.1, k.nl.snoc f.2.1, ?_, fun x hx => ?_, fun n j hx => ?_⟩
  · refine List.nodup_append.mpr ⟨k.nd, List.nodup_cons.mpr ⟨(fun z => by cases z), List.nodup_nil⟩, fun x hx y hy e => ?_⟩
    rw [List.mem_singleton.mp hy] at e
    exact new (e ▸ hx)
  · rcases List.mem_append.mp hx with e | e
    · exact form_grow (k.rowOk e) (k.form x e)
    · rw [List.mem_singleton.mp e]
      exact form_grow f.1 f.2.2.1
  · rcases List.mem_append.mp hx with e | e
    · exact k.ins n j e
    · have e' := List.mem_singleton.mp e
      have := f.2.2.2 n j e'.symm
      rw [← e'] at this
      exact this
/-! what a wire tells -/
def bit (ws : List (Str × Int)) (ks : List Row) (w : Nat) : Int := (toldL ws ks).getD w 0
theorem run_grow (f : List Int → Row → Int) {ks t : List Row} {w : Nat} (h : w < ks.length) : (runL f (ks ++ t)).getD w 0 = (runL f ks).getD w 0 := by
  have e := runL_take f (ks ++ t) ks.length
  rw [List.take_left'  rfl] at e
  rw [e, List.getD_eq_getElem?_getD, List.getD_eq_getElem?_getD, List.getElem?_take, if_pos h]
theorem bit_grow {ks ks' : List Row} (g : Grow ks ks') (ws : List (Str × Int)) {w : Nat} (h : w < ks.length) : bit ws ks' w = bit ws ks w := by
  obtain ⟨t, rfl, _⟩ := g
  exact run_grow (gateI ws) h
theorem dep_grow {ks ks' : List Row} (g : Grow ks ks') {w : Nat} (h : w < ks.length) : dep ks' w = dep ks w := by
  obtain ⟨t, rfl, _⟩ := g
  exact run_grow deepI h
theorem run_at (f : List Int → Row → Int) {ks : List Row} {w : Nat} {r : Row} (h : ks[w]? = some r) : (runL f ks).getD w 0 = f ((runL f ks).take w) r := by
  rw [List.getD_eq_getElem?_getD, runL_get f h]
  rfl
theorem take_getD {xs : List Int} {w a : Nat} (h : a < w) : (xs.take w).getD a 0 = xs.getD a 0 := by
  rw [List.getD_eq_getElem?_getD, List.getD_eq_getElem?_getD, List.getElem?_take, if_pos h]
theorem bit_fix {ws : List (Str × Int)} {ks : List Row} {w : Nat} {b : Int} (h : ks[w]? = some (.fix b)) : bit ws ks w = b := run_at (gateI ws) h
theorem bit_inn {ws : List (Str × Int)} {ks : List Row} {w : Nat} {n : Str} {k : Nat} (h : ks[w]? = some (.inn n k)) : bit ws ks w = (lookW ws n).getD 0 / 2 ^ k % 2 := run_at (gateI ws) h
theorem bit_inv {N : Str → Prop} {ws : List (Str × Int)} {ks : List Row} {w a : Nat} (ok : RowsOk N ks) (h : ks[w]? = some (.inv a)) : bit ws ks w = 1 - bit ws ks a := by
  have ha : a < w := ok w _ h
  have e := run_at (gateI ws) h
  unfold bit
  show (runL (gateI ws) ks).getD w 0 = 1 - (runL (gateI ws) ks).getD a 0
  rw [e, ← take_getD ha]
  rfl
theorem bit_bin {N : Str → Prop} {ws : List (Str × Int)} {ks : List Row} {w a b : Nat} {o : Bop} (ok : RowsOk N ks) (h : ks[w]? = some (.bin o a b)) : bit ws ks w = bopI o (bit ws ks a) (bit ws ks b) := by
  have ha := ok w _ h
  have e := run_at (gateI ws) h
  unfold bit
  show (runL (gateI ws) ks).getD w 0 = bopI o ((runL (gateI ws) ks).getD a 0) ((runL (gateI ws) ks).getD b 0)
  rw [e, ← take_getD ha.1, ← take_getD ha.2]
  rfl
theorem bit_01 {N : Str → Prop} {ks : List Row} (ok : RowsOk N ks) (ws : List (Str × Int)) (w : Nat) : is01 (bit ws ks w) := by
  have h := toldL_01 ws ok ks.length
  rw [List.take_of_length_le (Nat.le_refl _)] at h
  exact all01_get h w
end Dpr

namespace Dpr
open PySem PySem.Spec PyProof.Rows L2
/-! heaps of which some places may change -/
def Fr (ms : List Addr) (H H' : Hp) : Prop := ∀ b o, H b = some o → b ∉ ms → H' b = some o
theorem Fr.refl {ms : List Addr} {H : Hp} : Fr ms H H := fun _ _ h _ => h
theorem Fr.trans {ms : List Addr} {H H1 H2 : Hp} (h : Fr ms H H1) (k : Fr ms H1 H2) : Fr ms H H2 := fun b o e n => k b o (h b o e n) n
theorem Fr.of {ms : List Addr} {H H' : Hp} (s : Same H H') : Fr ms H H' := fun b o e _ => s b o e
theorem Fr.put {ms : List Addr} {H : Hp} {a : Addr} {o : HO} (h : a ∈ ms) : Fr ms H (upd H a o) := fun b x e n => by
  rw [upd_ne (fun z => n (by rw [z]; exact h))]
  exact e
theorem Fr.same {ms : List Addr} {H0 H H' : Hp} (f : Fr ms H H') (s : Same H0 H) (n : ∀ m ∈ ms, H0 m = none) : Same H0 H' := fun b o e => f b o (s b o e) (fun z => by
  rw [n b z] at e
  cases e)
theorem Fr.mono {ms ns : List Addr} {H H' : Hp} (f : Fr ms H H') (h : ∀ m ∈ ms, m ∈ ns) : Fr ns H H' := fun b o e n => f b o e (fun z => n (h b z))
theorem seq_fr {K : PySem.W.Frag} {ms : List Addr} {H H' : Hp} {a : Addr} {xs : List V} (f : Fr ms H H') (n : a ∉ ms) (h : SqL K H a xs) : SqL K H' a xs := by
  rcases h with (h | ⟨o, h⟩) | h
  · exact .inl (.inl (f _ _ h n))
  · exact .inl (.inr ⟨o, f _ _ h n⟩)
  · exact .inr h
/-! dicts by rows -/
def NInB (Q : Bool → Hp → Prop) (y x : V) (H2 : Hp) : Prop := ∃ a o, x = .ref a ∧ DGet H2 a y o ∧ ∃ k, V.bl (!o.isSome) = .bl k ∧ Q k H2
def InB (Q : Bool → Hp → Prop) (y x : V) (H2 : Hp) : Prop := ∃ a o, x = .ref a ∧ DGet H2 a y o ∧ ∃ k, V.bl o.isSome = .bl k ∧ Q k H2
section
variable {σ : L2.St} {H : Hp} {Q : VK} {QB : Bool → Hp → Prop} {ty td : TE} {D : Ends}
theorem w_dnin (h : ty σ H fun y H1 => td σ H1 fun x H2 => NInB QB y x H2) : tB (tDNotIn ty td) σ H QB := h
theorem w_din (h : ty σ H fun y H1 => td σ H1 fun x H2 => InB QB y x H2) : tB (tDIn ty td) σ H QB := h
theorem w_NInT1 {a p : Addr} {kvs : List (List Key × V)} {k : List Key} (e : H a = some (.dT kvs)) (ep : H p = some (.tup (k.map kV))) (n : valV kvs k = none) (q : QB true H) : NInB QB (.ref p) (.ref a) H :=
  ⟨a, none, rfl, by rw [← n]; exact DGet.t e ep, true, rfl, q⟩
theorem w_NInT0 {a p : Addr} {kvs : List (List Key × V)} {k : List Key} {v : V} (e : H a = some (.dT kvs)) (ep : H p = some (.tup (k.map kV))) (n : valV kvs k = some v) (q : QB false H) : NInB QB (.ref p) (.ref a) H :=
  ⟨a, some v, rfl, by rw [← n]; exact DGet.t e ep, false, rfl, q⟩
theorem w_DGT {a p : Addr} {kvs : List (List Key × V)} {k : List Key} {v : V} (e : H a = some (.dT kvs)) (ep : H p = some (.tup (k.map kV))) (n : valV kvs k = some v) (q : Q v H) : DG1 (.ref a) (.ref p) H Q :=
  ⟨a, v, rfl, by rw [← n]; exact DGet.t e ep, q⟩
theorem w_DPutT {a p : Addr} {kvs : List (List Key × V)} {k : List Key} {v : V} (e : H a = some (.dT kvs)) (ep : H p = some (.tup (k.map kV))) (hl : kvs.length ≤ 1000000) (q : D.nx σ (upd H a (.dT (putK kvs k v)))) : DPutB D σ v (.ref a) (.ref p) H :=
  ⟨a, _, rfl, .inr ⟨kvs, k, p, e, rfl, ep, Nat.lt_of_le_of_lt hl (by rw [sizeLine_eq]; decide), rfl⟩, q⟩
theorem w_dnewT (h : ∀ p H', H p = none → Same H H' → H' p = some (.dT []) → Q (.ref p) H') : tDNewT σ H Q := fun p hp => h p _ hp (same_upd hp) upd_same
end
theorem w_notNoI {i : Int} {H : Hp} {Q : VK} (h : Q (.bl true) H) : rNotNo (.int i) .non H Q := ⟨rfl, h⟩
/-! objects made -/
section
variable {σ : L2.St} {H H1 : Hp} {Q : VK} {C : Addr} {sp : Sp} {vs dvs : List V} {E : XK} {t : TA}
def MkB (C : Addr) (sp : Sp) (dvs : List V) (E : XK) (Q : VK) (vs : List V) (H1 : Hp) : Prop := ∀ x dx, H1 x = none → H1 dx = none → dx ≠ x → sp (.ref x :: (vs ++ dvs)) (upd (upd H1 dx (.own x)) x (.ins C dx [])) (fun v H2 => v = .non ∧ Q (.ref x) H2) E
theorem w_mk (h : t σ H fun vs H1 => MkB C sp dvs E Q vs H1) : tMake C sp dvs E t σ H Q := h
theorem w_MkB (h : ∀ x dx H2, H1 x = none → H1 dx = none → Same H1 H2 → H2 x = some (.ins C dx []) → sp (.ref x :: (vs ++ dvs)) H2 (fun v H3 => v = .non ∧ Q (.ref x) H3) E) : MkB C sp dvs E Q vs H1 := fun x dx n1 n2 ne =>
  h x dx _ n1 n2 ((same_upd n2).trans (same_upd (by rw [upd_ne ne.symm]; exact n1))) upd_same
end
/-! lists set by places -/
section
variable {σ : L2.St} {H : Hp} {Q : VK} {QS : L2.St → Hp → Prop} {ta ti : TE} {ts : TSet} {v : V}
theorem w_gSub (h : ta σ H fun o H1 => ti σ H1 fun i H2 => ts o i v H2 fun H3 => QS σ H3) : gSub ta ti ts v σ H QS := h
theorem ixN_nat {n k : Nat} (h : k < n) : ixN n (k : Int) = some k := by
  unfold ixN
  rw [if_pos (by omega), if_pos (by omega), Int.toNat_natCast]
theorem w_setL {p : Addr} {xs : List V} {k : Nat} {QH : Hp → Prop} (hp : H p = some (.lst xs)) (hk : k < xs.length) (q : QH (upd H p (.lst (xs.set k v)))) : rSetL (.ref p) (.int (k : Int)) v H QH := ⟨p, xs, k, k, rfl, rfl, hp, ixN_nat hk, q⟩
end
/-! tuples of lists, tuples joined -/
def rTupOf (K : PySem.W.Frag) : List V → Hp → VK → Prop := fun xs H Q => ∃ p ys, xs = [.ref p] ∧ ((SqL K H p ys ∧ ∀ l, H l = none → Q (.ref l) (upd H l (.tup ys))) ∨ (SqT K H p ys ∧ Q (.ref p) H))
theorem c_tupK {X : Cx} (K : PySem.W.Frag) (e : X.K = K := by rfl) : CallR X (.type "tuple") (rTupOf K) := by subst e; exact call_tuple_of
theorem w_tupL {K : PySem.W.Frag} {H : Hp} {Q : VK} {p : Addr} {xs : List V} (h : SqL K H p xs) (q : ∀ l H', H l = none → Same H H' → H' l = some (.tup xs) → Q (.ref l) H') : rTupOf K [.ref p] H Q := ⟨p, xs, rfl, .inl ⟨h, fun l hl => q l _ hl (same_upd hl) upd_same⟩⟩
theorem op_catTK {X : Cx} (K : PySem.W.Frag) (e : X.K = K := by rfl) : OpR X (binaryOp .Add) (rCatT K) := by subst e; exact op_catT
theorem w_catT {K : PySem.W.Frag} {H : Hp} {Q : VK} {a b : Addr} {xs ys : List V} (ha : SqT K H a xs) (hb : SqT K H b ys) (hx : xs ≠ []) (hy : ys ≠ []) (hz : xs.length + ys.length ≤ 1000) (q : ∀ l H', H l = none → Same H H' → H' l = some (.tup (xs ++ ys)) → Q (.ref l) H') : rCatT K (.ref a) (.ref b) H Q :=
  ⟨a, b, xs, ys, rfl, rfl, ha, hb, hx, Nat.le_trans hz (by rw [sizeLine_eq]; decide), fun z => absurd z hy, fun _ l hl => q l _ hl (same_upd hl) upd_same⟩
/-- a comprehension over a tuple -/
theorem lc_t {K : PySem.W.Frag} {σ : L2.St} {H : Hp} {Q : VK} {te : TE} {vs : List Nat} {a : Addr} {j : Nat} (xs ys : List V) (hlen : ys.length = xs.length) (hS : SqT K H a xs) (hz : xs.length ≤ 1000000) (hw : ∀ x, wipe ((wipe σ vs).set j (some x)) vs = wipe σ vs)
    (he : ∀ (i : Nat) x y H' (Q' : VK), xs[i]? = some x → ys[i]? = some y → Same H H' → Q' y H' → te ((wipe σ vs).set j (some x)) H' Q')
    (q : ∀ p H', H p = none → Same H H' → H' p = some (.lst ys) → Q (.ref p) H') : LcB (Itt K a) (gName j) tYes te vs σ Q H := fun p hp =>
  lc_tup (xs := xs) (fun i H' => H' = upd H p (.lst (ys.take i))) rfl (fun i H' _ e => by
    subst e
    exact same_tup (same_upd hp) hS) (fun i x H' hx e => by
    subst e
    have hi := (List.getElem?_eq_some_iff.mp hx).1
    have hy : ys[i]? = some ys[i] := List.getElem?_eq_getElem (by omega)
    show wipe ((wipe σ vs).set j (some x)) vs = wipe σ vs ∧ te ((wipe σ vs).set j (some x)) (upd H p (.lst (ys.take i)))
      (fun y H4 => ∃ acc, H4 p = some (.lst acc) ∧ acc.length < sizeLine ∧ upd H4 p (.lst (acc ++ [y])) = upd H p (.lst (ys.take (i + 1))))
    refine ⟨hw _, he i x _ _ _ hx hy (same_upd hp) ⟨_, upd_same, ?_, ?_⟩⟩
    · rw [List.length_take]
      exact Nat.lt_of_lt_of_le (show min i ys.length < 16777216 by omega) (by rw [sizeLine_eq]; exact Nat.le_refl _)
    · rw [upd_upd, List.take_add_one, hy]
      rfl) fun H' e => by
    subst e
    refine q p _ hp (same_upd hp) ?_
    rw [upd_same, List.take_of_length_le (by omega)]
end Dpr

namespace Dpr
open PySem PySem.Spec PyProof.Rows L2
theorem natI_map (ws : List Nat) : (natI ws).map V.int = ws.map fun (z : Nat) => V.int (z : Int) := by unfold natI; rw [List.map_map]; rfl
theorem ref_at {ps : List Addr} {w : Nat} {p : Addr} (hp : ps[w]? = some p) : atI (ps.map V.ref) (w : Int) = some (.ref p) := atI_nat (by rw [List.getElem?_map, hp]; rfl)
end Dpr

namespace Dpr
open PySem PySem.Spec PyProof.Rows L2
/-! depths, row by row -/
theorem dep_own {N : Str → Prop} {ks : List Row} (ok : RowsOk N ks) {w a : Nat} {r : Row} (h : ks[w]? = some r) (ha : a ∈ ownR r) : dep ks a + 1 ≤ dep ks w := by
  rw [dep_eq ok h]
  exact (fold_top_le (fun z => dep ks z + 1) (ownR r) 0).2 a ha
theorem dep_le_of {N : Str → Prop} {ks : List Row} (ok : RowsOk N ks) {w : Nat} {r : Row} {m : Int} (h : ks[w]? = some r) (hm : 0 ≤ m) (k : ∀ a ∈ ownR r, dep ks a + 1 ≤ m) : dep ks w ≤ m := by
  rw [dep_eq ok h]
  rcases fold_top (fun z => dep ks z + 1) (ownR r) 0 with e | ⟨z, hz, e⟩
  · rw [e]; exact hm
  · rw [e]; exact k z hz
/-! which wires are needed -/
def markL (fs : List Bool) (ws : List Nat) : List Bool := ws.foldl (fun f w => f.set w true) fs
theorem mark_len : ∀ (ws : List Nat) (fs : List Bool), (markL fs ws).length = fs.length
  | [], _ => rfl
  | w :: ws, fs => by
    show (markL (fs.set w true) ws).length = fs.length
    rw [mark_len ws, List.length_set]
theorem mark_get : ∀ (ws : List Nat) (fs : List Bool) (x : Nat), x < fs.length → ((markL fs ws)[x]? = some true ↔ x ∈ ws ∨ fs[x]? = some true)
  | [], fs, x, _ => ⟨.inr, fun h => h.resolve_left (fun z => by cases z)⟩
  | w :: ws, fs, x, hx => by
    show (markL (fs.set w true) ws)[x]? = some true ↔ _
    rw [mark_get ws (fs.set w true) x (by rw [List.length_set]; exact hx), List.getElem?_set]
    by_cases e : w = x
    · subst e
      rw [if_pos rfl, if_pos hx]
      exact ⟨fun _ => .inl (List.mem_cons_self ..), fun _ => .inr rfl⟩
    · rw [if_neg e, List.mem_cons]
      exact ⟨fun h => h.elim (fun a => .inl (.inr a)) .inr, fun h => h.elim (fun a => a.elim (fun z => absurd z.symm e) .inl) .inr⟩
theorem mark_snoc (fs : List Bool) (ws : List Nat) (w : Nat) : markL fs (ws ++ [w]) = (markL fs ws).set w true := by
  unfold markL
  rw [List.foldl_append]
  rfl
def NeedI (rs : List Row) (outs : List Nat) (n i : Nat) (fs : List Bool) : Prop := fs.length = n ∧ ∀ w, w < n → (fs[w]? = some true ↔ w ∈ outs ∨ ∃ j r, n - i ≤ j ∧ rs[j]? = some r ∧ w ∈ ownR r ∧ fs[j]? = some true)
theorem NeedI.start {rs : List Row} {outs : List Nat} (n : Nat) (hn : rs.length = n) : NeedI rs outs n 0 (markL (List.replicate n false) outs) := by
  have hl : (List.replicate n false).length = n := List.length_replicate
  refine ⟨by rw [mark_len, hl], fun w hw => ?_⟩
  rw [mark_get _ _ _ (by rw [hl]; exact hw)]
  constructor
  · rintro (h | h)
    · exact .inl h
    · rw [List.getElem?_replicate, if_pos hw] at h
      cases h
  · rintro (h | ⟨j, r, h1, h2, _⟩)
    · exact .inl h
    · have := (List.getElem?_eq_some_iff.mp h2).1
      omega
theorem NeedI.skip {rs : List Row} {outs : List Nat} {n i : Nat} {fs : List Bool} (h : NeedI rs outs n i fs) (hf : ¬ fs[n - (i + 1)]? = some true) (hi : i < n) : NeedI rs outs n (i + 1) fs := by
  refine ⟨h.1, fun w hw => ?_⟩
  rw [h.2 w hw]
  constructor
  · rintro (k | ⟨j, r, h1, h2⟩)
    · exact .inl k
    · exact .inr ⟨j, r, by omega, h2⟩
  · rintro (k | ⟨j, r, h1, h2, h3, h4⟩)
    · exact .inl k
    · by_cases e : n - i ≤ j
      · exact .inr ⟨j, r, e, h2, h3, h4⟩
      · have e2 : j = n - (i + 1) := by omega
        rw [e2] at h4
        exact absurd h4 hf
theorem NeedI.mark {N : Str → Prop} {rs : List Row} {outs : List Nat} {n i : Nat} {fs : List Bool} {r : Row} (ok : RowsOk N rs) (h : NeedI rs outs n i fs) (hf : fs[n - (i + 1)]? = some true) (hi : i < n) (hr : rs[n - (i + 1)]? = some r) : NeedI rs outs n (i + 1) (markL fs (ownR r)) := by
  have lt := own_lt (ok _ r hr)
  have same : ∀ j, n - (i + 1) ≤ j → j < n → ((markL fs (ownR r))[j]? = some true ↔ fs[j]? = some true) := fun j h1 h2 => by
    rw [mark_get _ _ _ (by rw [h.1]; exact h2)]
    exact ⟨fun k => k.resolve_left (fun z => by have := lt j z; omega), .inr⟩
  have inn : ∀ j, (markL fs (ownR r))[j]? = some true → j < n := fun j z => by
    have := (List.getElem?_eq_some_iff.mp z).1
    rw [mark_len, h.1] at this
    exact this
  have inn2 : ∀ j, fs[j]? = some true → j < n := fun j z => by
    have := (List.getElem?_eq_some_iff.mp z).1
    rw [h.1] at this
    exact this
  refine ⟨by rw [mark_len]; exact h.1, fun w hw => ?_⟩
  rw [mark_get _ _ _ (by rw [h.1]; exact hw), h.2 w hw]
  constructor
  · rintro (k | k | ⟨j, s, h1, h2, h3, h4⟩)
    · exact .inr ⟨n - (i + 1), r, Nat.le_refl _, hr, k, (same _ (Nat.le_refl _) (by omega)).mpr hf⟩
    · exact .inl k
    · exact .inr ⟨j, s, by omega, h2, h3, (same j (by omega) (inn2 j h4)).mpr h4⟩
  · rintro (k | ⟨j, s, h1, h2, h3, h4⟩)
    · exact .inr (.inl k)
    · have h5 := (same j h1 (inn j h4)).mp h4
      by_cases e : n - i ≤ j
      · exact .inr (.inr ⟨j, s, e, h2, h3, h5⟩)
      · have e2 : j = n - (i + 1) := by omega
        rw [e2, hr] at h2
        cases h2
        exact .inl h3
/-! rows numbered anew -/
def cnt (fs : List Bool) (j : Nat) : Nat := (fs.take j).count true
theorem cnt_succ {fs : List Bool} {j : Nat} {b : Bool} (h : fs[j]? = some b) : cnt fs (j + 1) = cnt fs j + (if b = true then 1 else 0) := by
  unfold cnt
  rw [take_snoc h, List.count_append]
  cases b <;> rfl
theorem cnt_mono (fs : List Bool) {i j : Nat} (h : i ≤ j) : cnt fs i ≤ cnt fs j := by
  unfold cnt
  exact List.Sublist.count_le true (List.take_sublist_take_left h)
theorem cnt_lt {fs : List Bool} {i j : Nat} (h : i < j) (hi : fs[i]? = some true) : cnt fs i < cnt fs j := by
  have e := cnt_succ hi
  rw [if_pos rfl] at e
  have := cnt_mono fs (show i + 1 ≤ j from h)
  omega
theorem cnt_le (fs : List Bool) (j : Nat) : cnt fs j ≤ j := by
  unfold cnt
  exact Nat.le_trans List.count_le_length (by rw [List.length_take]; omega)
theorem cnt_inv (fs : List Bool) : ∀ (i k : Nat), i ≤ fs.length → k < cnt fs i → ∃ j, j < i ∧ fs[j]? = some true ∧ cnt fs j = k
  | 0, k, _, h => by unfold cnt at h; rw [List.take_zero] at h; simp at h
  | i + 1, k, hl, h => by
    have hi : i < fs.length := by omega
    have e := cnt_succ (List.getElem?_eq_getElem hi)
    by_cases c : k < cnt fs i
    · obtain ⟨j, h1, h2, h3⟩ := cnt_inv fs i k (by omega) c
      exact ⟨j, by omega, h2, h3⟩
    · cases g : fs[i] with
      | true =>
        rw [g, if_pos rfl] at e
        exact ⟨i, Nat.lt_succ_self _, by rw [List.getElem?_eq_getElem hi, g], by omega⟩
      | false =>
        rw [g, if_neg Bool.false_ne_true] at e
        omega
def renR (f : Nat → Nat) : Row → Row
  | .inv a => .inv (f a)
  | .bin o a b => .bin o (f a) (f b)
  | r => r
theorem own_ren (f : Nat → Nat) (r : Row) (nl : noLat r) : ownR (renR f r) = (ownR r).map f := by
  cases r <;> first | rfl | exact nl.elim
theorem ren_inj {f : Nat → Nat} {r s : Row} (n1 : noLat r) (n2 : noLat s) (i : ∀ x ∈ ownR r, ∀ y ∈ ownR s, f x = f y → x = y) (h : renR f r = renR f s) : r = s := by
  cases r with
  | fix b =>
    cases s with
    | fix c => exact h
    | lat c => exact n2.elim
    | _ => exact Row.noConfusion h
  | inn m k =>
    cases s with
    | inn c d => exact h
    | lat c => exact n2.elim
    | _ => exact Row.noConfusion h
  | lat a => exact n1.elim
  | inv a =>
    cases s with
    | inv b => rw [i a (List.mem_cons_self ..) b (List.mem_cons_self ..) (Row.inv.inj h)]
    | lat c => exact n2.elim
    | _ => exact Row.noConfusion h
  | bin p a b =>
    cases s with
    | bin q c d =>
      obtain ⟨e1, e2, e3⟩ := Row.bin.inj h
      rw [e1, i a (List.mem_cons_self ..) c (List.mem_cons_self ..) e2, i b (List.mem_cons_of_mem _ (List.mem_cons_self ..)) d (List.mem_cons_of_mem _ (List.mem_cons_self ..)) e3]
    | lat c => exact n2.elim
    | _ => exact Row.noConfusion h
def Ren (rs : List Row) (fs : List Bool) (i : Nat) (made : List Row) : Prop := made.length = cnt fs i ∧ ∀ j r, j < i → rs[j]? = some r → fs[j]? = some true → made[cnt fs j]? = some (renR (cnt fs) r)
theorem Ren.start (rs : List Row) (fs : List Bool) : Ren rs fs 0 [] := ⟨rfl, fun j r h => by omega⟩
theorem Ren.skip {rs : List Row} {fs : List Bool} {i : Nat} {made : List Row} (h : Ren rs fs i made) (hi : fs[i]? = some false) : Ren rs fs (i + 1) made := by
  refine ⟨by rw [cnt_succ hi, h.1]; rfl, fun j r hj hr hf => ?_⟩
  by_cases e : j < i
  · exact h.2 j r e hr hf
  · rw [show j = i by omega, hi] at hf
    cases hf
theorem Ren.put {rs : List Row} {fs : List Bool} {i : Nat} {made : List Row} {r : Row} (h : Ren rs fs i made) (hi : fs[i]? = some true) (hr : rs[i]? = some r) : Ren rs fs (i + 1) (made ++ [renR (cnt fs) r]) := by
  refine ⟨by rw [List.length_append, cnt_succ hi, h.1]; rfl, fun j s hj hs hf => ?_⟩
  by_cases e : j < i
  · have := cnt_lt e hf
    rw [List.getElem?_append_left (by rw [h.1]; exact this)]
    exact h.2 j s e hs hf
  · obtain rfl : j = i := by omega
    rw [hr] at hs
    cases hs
    rw [← h.1, List.getElem?_append_right (Nat.le_refl _), Nat.sub_self]
    rfl
/-! rows made fewer -/
structure FewOk (N : Str → Prop) (rs : List Row) (outs : List Nat) (made : List Row) (outs' : List Nat) : Prop where
  kok : KOk N rs made
  len : made.length ≤ rs.length
  olen : outs'.length = outs.length
  olt : ∀ o ∈ outs', o < made.length
  same : ∀ (i o o' : Nat), outs[i]? = some o → outs'[i]? = some o' → (∀ ws, bit ws made o' = bit ws rs o) ∧ dep made o' ≤ dep rs o
  used : ∀ k, k < made.length → k ∈ outs' ∨ ∃ (j : Nat) (r : Row), made[j]? = some r ∧ k ∈ ownR r
section
variable {N : Str → Prop} {old ks made : List Row} {outs : List Nat} {fs : List Bool}
theorem ren_row (kok : KOk N old ks) (hR : Ren ks fs ks.length made) (hl : fs.length = ks.length) {k : Nat} {s : Row} (h : made[k]? = some s) : ∃ j r, ks[j]? = some r ∧ fs[j]? = some true ∧ cnt fs j = k ∧ s = renR (cnt fs) r := by
  have hk := (List.getElem?_eq_some_iff.mp h).1
  rw [hR.1] at hk
  obtain ⟨j, h1, h2, h3⟩ := cnt_inv fs _ k (by rw [hl]; exact Nat.le_refl _) hk
  refine ⟨j, ks[j], List.getElem?_eq_getElem h1, h2, h3, ?_⟩
  have e := hR.2 j _ h1 (List.getElem?_eq_getElem h1) h2
  rw [h3, h] at e
  exact Option.some.inj e
theorem need_own (hN : NeedI ks outs ks.length ks.length fs) (ok : RowsOk N ks) {j a : Nat} {r : Row} (hr : ks[j]? = some r) (hf : fs[j]? = some true) (ha : a ∈ ownR r) : a < j ∧ fs[a]? = some true := by
  have lt := own_lt (ok j r hr) a ha
  have hj := (List.getElem?_eq_some_iff.mp hr).1
  exact ⟨lt, (hN.2 a (by omega)).mpr (.inr ⟨j, r, by omega, hr, ha, hf⟩)⟩
theorem ren_ok (kok : KOk N old ks) (hN : NeedI ks outs ks.length ks.length fs) (hR : Ren ks fs ks.length made) : KOk N old made := by
  have row := fun {k : Nat} {s : Row} (h : made[k]? = some s) => ren_row kok hR hN.1 h
  have inj : ∀ (i j : Nat), fs[i]? = some true → fs[j]? = some true → cnt fs i = cnt fs j → i = j := fun i j hi hj e => by
    rcases Nat.lt_trichotomy i j with q | q | q
    · have := cnt_lt q hi; omega
    · exact q
    · have := cnt_lt q hj; omega
  have own : ∀ {j : Nat} {r : Row}, ks[j]? = some r → fs[j]? = some true → ∀ a ∈ ownR r, cnt fs a < cnt fs j ∧ fs[a]? = some true := fun hr hf a ha => by
    obtain ⟨h1, h2⟩ := need_own hN kok.ok hr hf ha
    exact ⟨cnt_lt h1 h2, h2⟩
  have at' : ∀ {j : Nat} {r : Row}, ks[j]? = some r → fs[j]? = some true → made[cnt fs j]? = some (renR (cnt fs) r) := fun hr hf => hR.2 _ _ (List.getElem?_eq_some_iff.mp hr).1 hr hf
  have back : ∀ {a : Nat} {s : Row}, fs[a]? = some true → made[cnt fs a]? = some s → ∃ r, ks[a]? = some r ∧ s = renR (cnt fs) r := fun {a s} ha hs => by
    obtain ⟨j, r, h1, h2, h3, h4⟩ := row hs
    obtain rfl := inj _ _ h2 ha h3
    exact ⟨r, h1, h4⟩
  have nofix : ∀ {a : Nat}, fs[a]? = some true → ¬ fixAt ks a → ¬ fixAt made (cnt fs a) := fun {a} ha hn ⟨b, hb⟩ => by
    obtain ⟨r, h1, h2⟩ := back ha hb
    cases r with
    | fix c => exact hn ⟨c, h1⟩
    | _ => cases h2
  have noinv : ∀ {a : Nat}, fs[a]? = some true → ¬ invAt ks a → ¬ invAt made (cnt fs a) := fun {a} ha hn ⟨b, hb⟩ => by
    obtain ⟨r, h1, h2⟩ := back ha hb
    cases r with
    | inv c => exact hn ⟨c, h1⟩
    | _ => cases h2
  refine ⟨fun k s hs => ?_, fun s hs => ?_, ?_, fun s hs => ?_, fun n k hs => ?_⟩
  · obtain ⟨j, r, h1, h2, h3, rfl⟩ := row hs
    have o := own h1 h2
    have okr := kok.ok j r h1
    rw [← h3]
    cases r with
    | fix b => exact okr
    | inn m k => exact okr
    | inv a => exact (o a (List.mem_cons_self ..)).1
    | bin p a b => exact ⟨(o a (List.mem_cons_self ..)).1, (o b (List.mem_cons_of_mem _ (List.mem_cons_self ..))).1⟩
    | lat a => exact (kok.nl _ (List.mem_of_getElem? h1)).elim
  · obtain ⟨k, hk⟩ := List.mem_iff_getElem?.mp hs
    obtain ⟨j, r, h1, h2, h3, rfl⟩ := row hk
    have := kok.nl _ (List.mem_of_getElem? h1)
    cases r <;> first | exact True.intro | exact this.elim
  · rw [List.nodup_iff_pairwise_ne, List.pairwise_iff_getElem]
    intro i j hi hj hij e
    obtain ⟨i', r, h1, h2, h3, h4⟩ := row (List.getElem?_eq_getElem hi)
    obtain ⟨j', s, g1, g2, g3, g4⟩ := row (List.getElem?_eq_getElem hj)
    rw [e, g4] at h4
    have o1 := own h1 h2
    have o2 := own g1 g2
    have n1 := kok.nl _ (List.mem_of_getElem? h1)
    have n2 := kok.nl _ (List.mem_of_getElem? g1)
    have e2 : r = s := ren_inj n1 n2 (fun x hx y hy e => inj x y (o1 x hx).2 (o2 y hy).2 e) h4.symm
    subst e2
    have hj' := (List.getElem?_eq_some_iff.mp h1)
    have hi' := (List.getElem?_eq_some_iff.mp g1)
    have : i' = j' := (List.getElem_inj kok.nd).mp (hj'.2.trans hi'.2.symm)
    subst this
    omega
  · obtain ⟨k, hk⟩ := List.mem_iff_getElem?.mp hs
    obtain ⟨j, r, h1, h2, h3, rfl⟩ := row hk
    have o := own h1 h2
    have f := kok.form r (List.mem_of_getElem? h1)
    cases r with
    | inv a =>
      have ha := (o a (List.mem_cons_self ..)).2
      exact ⟨nofix ha f.1, noinv ha f.2⟩
    | bin p a b =>
      have ha := (o a (List.mem_cons_self ..)).2
      have hb := (o b (List.mem_cons_of_mem _ (List.mem_cons_self ..))).2
      exact ⟨cnt_lt f.1 ha, nofix ha f.2.1, nofix hb f.2.2⟩
    | _ => exact True.intro
  · obtain ⟨i, hi⟩ := List.mem_iff_getElem?.mp hs
    obtain ⟨j, r, h1, h2, h3, h4⟩ := row hi
    cases r with
    | inn m l =>
      have e := h4
      unfold renR at e
      rw [e]
      exact kok.ins m l (List.mem_of_getElem? h1)
    | _ => cases h4
theorem ren_same (kok : KOk N old ks) (hN : NeedI ks outs ks.length ks.length fs) (hR : Ren ks fs ks.length made) : ∀ (n j : Nat), j < n → fs[j]? = some true → (∀ ws, bit ws made (cnt fs j) = bit ws ks j) ∧ dep made (cnt fs j) ≤ dep ks j
  | 0, j, h, _ => by omega
  | n + 1, j, h, hf => by
    have ok' := (ren_ok kok hN hR).ok
    have ih := ren_same kok hN hR n
    have hj : j < ks.length := by
      have := (List.getElem?_eq_some_iff.mp hf).1
      rw [hN.1] at this
      exact this
    have hr := List.getElem?_eq_getElem hj
    have hm := hR.2 j _ hj hr hf
    have o := fun a ha => need_own hN kok.ok hr hf (a := a) ha
    refine ⟨fun ws => ?_, ?_⟩
    · generalize ks[j] = r at *
      cases r with
      | fix b => rw [bit_fix hr, bit_fix hm]
      | inn m k => rw [bit_inn hr, bit_inn hm]
      | inv a =>
        obtain ⟨h1, h2⟩ := o a (List.mem_cons_self ..)
        rw [bit_inv kok.ok hr, bit_inv ok' hm, (ih a (by omega) h2).1]
      | bin p a b =>
        obtain ⟨h1, h2⟩ := o a (List.mem_cons_self ..)
        obtain ⟨g1, g2⟩ := o b (List.mem_cons_of_mem _ (List.mem_cons_self ..))
        rw [bit_bin kok.ok hr, bit_bin ok' hm, (ih a (by omega) h2).1, (ih b (by omega) g2).1]
      | lat a => exact (kok.nl _ (List.mem_of_getElem? hr)).elim
    · refine dep_le_of ok' hm (dep_nn kok.ok j) fun a ha => ?_
      rw [own_ren _ _ (kok.nl _ (List.mem_of_getElem? hr))] at ha
      obtain ⟨b, hb, rfl⟩ := List.mem_map.mp ha
      obtain ⟨h1, h2⟩ := o b hb
      have := dep_own kok.ok hr hb
      have := (ih b (by omega) h2).2
      omega
theorem few_of {rs : List Row} {new : List Nat} {os : List Nat} (kok : KOk N rs ks) (hlen : ks.length ≤ rs.length) (hnl : ∀ w ∈ new, w < ks.length) (hol : ∀ o ∈ os, o < new.length)
    (hnew : ∀ (i w : Nat), new[i]? = some w → (∀ ws, bit ws ks w = bit ws rs i) ∧ dep ks w ≤ dep rs i) (ho : outs = os.map fun o => new.getD o 0) (hN : NeedI ks outs ks.length ks.length fs) (hR : Ren ks fs ks.length made) :
    FewOk N rs os made (outs.map (cnt fs)) := by
  have kok' := ren_ok kok hN hR
  have oget : ∀ (i o : Nat), os[i]? = some o → ∃ w, new[o]? = some w ∧ outs[i]? = some w := fun i o h => by
    have h2 := hol o (List.mem_of_getElem? h)
    refine ⟨new[o], List.getElem?_eq_getElem h2, ?_⟩
    rw [ho, List.getElem?_map, h, Option.map_some, List.getD_eq_getElem?_getD, List.getElem?_eq_getElem h2]
    rfl
  have need : ∀ w ∈ outs, w < ks.length ∧ fs[w]? = some true := fun w hw => by
    have hw0 := hw
    rw [ho] at hw
    obtain ⟨o, h1, h2⟩ := List.mem_map.mp hw
    obtain ⟨i, hi⟩ := List.mem_iff_getElem?.mp h1
    obtain ⟨w', g1, g2⟩ := oget i o hi
    rw [List.getD_eq_getElem?_getD, g1] at h2
    have e : w' = w := h2
    rw [e] at g1
    have hlt := hnl w (List.mem_of_getElem? g1)
    exact ⟨hlt, (hN.2 w hlt).mpr (.inl hw0)⟩
  have mlen : made.length ≤ ks.length := by rw [hR.1]; exact cnt_le _ _
  refine ⟨kok', Nat.le_trans mlen hlen, by rw [List.length_map, ho, List.length_map], fun o h => ?_, fun i o o' h1 h2 => ?_, fun k hk => ?_⟩
  · obtain ⟨w, hw, rfl⟩ := List.mem_map.mp h
    obtain ⟨h1, h2⟩ := need w hw
    rw [hR.1]
    exact cnt_lt h1 h2
  · obtain ⟨w, g1, g2⟩ := oget i o h1
    rw [List.getElem?_map, g2] at h2
    cases h2
    have hw := (need w (List.mem_of_getElem? g2)).2
    have r := ren_same kok hN hR (w + 1) w (Nat.lt_succ_self _) hw
    have s := hnew o w g1
    exact ⟨fun ws => (r.1 ws).trans (s.1 ws), Int.le_trans r.2 s.2⟩
  · rw [hR.1] at hk
    obtain ⟨j, h1, h2, h3⟩ := cnt_inv fs _ k (by rw [hN.1]; exact Nat.le_refl _) hk
    rcases (hN.2 j h1).mp h2 with q | ⟨i, r, q1, q2, q3, q4⟩
    · exact .inl (List.mem_map.mpr ⟨j, q, h3⟩)
    · refine .inr ⟨cnt fs i, _, hR.2 i r (List.getElem?_eq_some_iff.mp q2).1 q2 q4, ?_⟩
      rw [own_ren _ _ (kok.nl _ (List.mem_of_getElem? q2))]
      exact List.mem_map.mpr ⟨j, q3, h3⟩
end
end Dpr

namespace Dpr
open PySem PySem.Spec PyProof.Rows L2
/-! lists of lists of wires -/
def NatsAt (H : Hp) (p : Addr) (xs : List Nat) : Prop := H p = some (.lst ((natI xs).map V.int))
def Cols (H : Hp) (c : Addr) (ps : List Addr) (cols : List (List Nat)) : Prop := H c = some (.lst (ps.map V.ref)) ∧ A2 (NatsAt H) ps cols ∧ ps.Nodup
theorem nats_ref {xs : List Nat} {ps : List Addr} (h : ps.map V.ref = (natI xs).map V.int) : ps = [] := by
  cases ps with
  | nil => rfl
  | cons p r =>
    cases xs with
    | nil => cases h
    | cons x s => cases h
theorem Cols.cn {H : Hp} {c : Addr} {ps : List Addr} {cols : List (List Nat)} (h : Cols H c ps cols) : c ∉ ps := fun m => by
  obtain ⟨i, hi⟩ := List.mem_iff_getElem?.mp m
  obtain ⟨xs, _, e⟩ := h.2.1.get hi
  have e2 : H c = some (.lst ((natI xs).map V.int)) := e
  rw [h.1] at e2
  have := nats_ref (HO.lst.inj (Option.some.inj e2))
  rw [this] at m
  cases m
theorem Cols.at {H : Hp} {c : Addr} {ps : List Addr} {cols : List (List Nat)} (h : Cols H c ps cols) {p : Addr} (m : p ∈ ps) : ∃ xs, H p = some (.lst ((natI xs).map V.int)) := by
  obtain ⟨i, hi⟩ := List.mem_iff_getElem?.mp m
  obtain ⟨xs, _, e⟩ := h.2.1.get hi
  exact ⟨xs, e⟩
theorem Cols.fr {ms : List Addr} {H H' : Hp} {c : Addr} {ps : List Addr} {cols : List (List Nat)} (f : Fr ms H H') (nc : c ∉ ms) (np : ∀ p ∈ ps, p ∉ ms) (h : Cols H c ps cols) : Cols H' c ps cols :=
  ⟨f _ _ h.1 nc, h.2.1.mono2 fun p xs m e => f _ _ e (np p m), h.2.2⟩
theorem A2.mono3 {α β : Type} {R S : α → β → Prop} {xs : List α} {ys : List β} (h : A2 R xs ys) (k : ∀ x y, x ∈ xs → R x y → S x y) : A2 S xs ys := ⟨h.1, fun i x y a b => k x y (List.mem_of_getElem? a) (h.2 i x y a b)⟩
theorem Cols.same {H H' : Hp} {c : Addr} {ps : List Addr} {cols : List (List Nat)} (s : Same H H') (h : Cols H c ps cols) : Cols H' c ps cols := ⟨s _ _ h.1, h.2.1.mono fun _ _ e => s _ _ e, h.2.2⟩
theorem Cols.put {H : Hp} {c p : Addr} {ps : List Addr} {cols : List (List Nat)} {k : Nat} {ys : List Nat} (h : Cols H c ps cols) (hp : ps[k]? = some p) : Cols (upd H p (.lst ((natI ys).map V.int))) c ps (cols.set k ys) := by
  have hm := List.mem_of_getElem? hp
  have hk := (List.getElem?_eq_some_iff.mp hp).1
  refine ⟨?_, ⟨by rw [List.length_set]; exact h.2.1.1, fun i x zs hx hz => ?_⟩, h.2.2⟩
  · rw [upd_ne (fun z => h.cn (by rw [z]; exact hm))]
    exact h.1
  · rw [List.getElem?_set] at hz
    by_cases e : k = i
    · subst e
      rw [if_pos rfl] at hz
      rw [hp] at hx
      cases hx
      split at hz
      · cases hz
        exact upd_same
      · cases hz
    · rw [if_neg e] at hz
      have ne : x ≠ p := fun z => by
        rw [z] at hx
        have h1 := List.getElem?_eq_some_iff.mp hx
        have h2 := List.getElem?_eq_some_iff.mp hp
        exact e ((List.getElem_inj h.2.2).mp (h2.2.trans h1.2.symm))
      show upd H p _ x = _
      rw [upd_ne ne]
      exact h.2.1.2 i x zs hx hz
def addC (cols : List (List Nat)) (k w : Nat) : List (List Nat) := match cols[k]? with
  | some xs => cols.set k (xs ++ [w])
  | none => cols
theorem addC_set {cols : List (List Nat)} {k w : Nat} {xs : List Nat} (h : cols[k]? = some xs) : addC cols k w = cols.set k (xs ++ [w]) := by
  unfold addC
  rw [h]
theorem addC_no {cols : List (List Nat)} {k w : Nat} (h : cols.length ≤ k) : addC cols k w = cols := by
  unfold addC
  rw [List.getElem?_eq_none h]
theorem addC_len (cols : List (List Nat)) (k w : Nat) : (addC cols k w).length = cols.length := by
  unfold addC
  cases e : cols[k]? with
  | some xs => exact List.length_set
  | none => rfl
/-- fresh empty lists -/
theorem lc_empties {σ : L2.St} {H : Hp} {Q : VK} {vs : List Nat} {lo : Int} {n j : Nat} (hn : n < 1000000) (hw : ∀ x, wipe ((wipe σ vs).set j (some x)) vs = wipe σ vs)
    (q : ∀ (c : Addr) (ps : List Addr) H', ps.length = n → H c = none → (∀ p ∈ ps, H p = none) → Same H H' → Cols H' c ps (List.replicate n []) → Q (.ref c) H') : LcB (Itr lo n) (gName j) tYes (tLst tNil) vs σ Q H := fun D hD =>
  lc_range (lo := lo) (n := n) (fun i H' => ∃ ps : List Addr, ps.length = i ∧ H' D = some (.lst (ps.map V.ref)) ∧ (∀ p ∈ ps, H' p = some (.lst []) ∧ H p = none) ∧ ps.Nodup ∧ D ∉ ps ∧ Same H H') ⟨[], rfl, upd_same, fun y h => (by cases h), List.nodup_nil, fun h => (by cases h), same_upd hD⟩ (fun i H' hi e => by
    obtain ⟨ps, hl, hd, hp, nd, dn, sm⟩ := e
    show wipe ((wipe σ vs).set j (some (V.int (lo + (i : Int))))) vs = wipe σ vs ∧ (([] : List V).length ≤ sizeLine ∧ ∀ l, H' l = none → ∃ acc, (upd H' l (.lst [])) D = some (.lst acc) ∧ acc.length < sizeLine ∧
      ∃ ps : List Addr, ps.length = i + 1 ∧ (upd (upd H' l (.lst [])) D (.lst (acc ++ [.ref l]))) D = some (.lst (ps.map V.ref)) ∧ (∀ p ∈ ps, (upd (upd H' l (.lst [])) D (.lst (acc ++ [.ref l]))) p = some (.lst []) ∧ H p = none) ∧ ps.Nodup ∧ D ∉ ps ∧ Same H (upd (upd H' l (.lst [])) D (.lst (acc ++ [.ref l]))))
    refine ⟨hw _, Nat.zero_le _, fun l hl0 => ?_⟩
    have ld : l ≠ D := fun z => by rw [z, hd] at hl0; cases hl0
    have lp : l ∉ ps := fun z => by rw [(hp l z).1] at hl0; cases hl0
    have lH : H l = none := sm.free hl0
    refine ⟨ps.map V.ref, by rw [upd_ne ld.symm]; exact hd, ?_, ps ++ [l], ?_, ?_, ?_, ?_, ?_, ?_⟩
    · rw [List.length_map, hl]
      exact Nat.lt_of_lt_of_le (show i < 16777216 by omega) (by rw [sizeLine_eq]; exact Nat.le_refl _)
    · rw [List.length_append, hl]; rfl
    · rw [upd_same, List.map_append]; rfl
    · intro p z
      rcases List.mem_append.mp z with z | z
      · refine ⟨?_, (hp p z).2⟩
        rw [upd_ne (fun w => dn (by rw [← w]; exact z)), upd_ne (fun w => lp (by rw [← w]; exact z))]
        exact (hp p z).1
      · rw [List.mem_singleton.mp z]
        refine ⟨?_, lH⟩
        rw [upd_ne ld, upd_same]
    · refine List.nodup_append.mpr ⟨nd, List.nodup_cons.mpr ⟨(fun z => by cases z), List.nodup_nil⟩, fun x hx y hy e => ?_⟩
      rw [List.mem_singleton.mp hy] at e
      exact lp (e ▸ hx)
    · intro z
      rcases List.mem_append.mp z with z | z
      · exact dn z
      · exact ld (List.mem_singleton.mp z).symm
    · exact same_mut (sm.trans (same_upd hl0)) hD) fun H' e => by
    obtain ⟨ps, hl, hd, hp, nd, dn, sm⟩ := e
    refine q D ps H' hl hD (fun p m => (hp p m).2) sm ⟨hd, ⟨by rw [List.length_replicate, hl], fun i x y hx hy => ?_⟩, nd⟩
    rw [List.getElem?_replicate] at hy
    split at hy
    · cases hy
      exact (hp x (List.mem_of_getElem? hx)).1
    · cases hy
theorem w_clear {H : Hp} {Q : VK} {p : Addr} {xs : List V} (e : H p = some (.lst xs)) (q : Q .non (upd H p (.lst []))) : rClear (.ref p) [] H Q := ⟨p, xs, rfl, rfl, e, q⟩
theorem w_pop0 {H : Hp} {Q : VK} {p : Addr} {x : V} {r : List V} (e : H p = some (.lst (x :: r))) (q : Q x (upd H p (.lst r))) : rPopAt (.ref p) [.int 0] H Q :=
  ⟨p, _, 0, 0, x, rfl, rfl, e, by decide, by decide, by
    unfold seqIndex?
    rw [List.length_cons]
    simp, rfl, q⟩
theorem Cols.refs {H : Hp} {c a p : Addr} {ps : List Addr} {cols : List (List Nat)} {r : List V} (h : Cols H c ps cols) (e : H a = some (.lst (.ref p :: r))) : a ∉ ps := fun m => by
  obtain ⟨xs, e2⟩ := h.at m
  rw [e] at e2
  cases xs with
  | nil => cases e2
  | cons x s => cases e2
def lens (cols : List (List Nat)) : List Nat := cols.map (·.length)
theorem Cols.ix {H : Hp} {c : Addr} {ps : List Addr} {cols : List (List Nat)} (h : Cols H c ps cols) {k : Nat} (hk : k < cols.length) : ∃ (p : Addr) (xs : List Nat), ps[k]? = some p ∧ cols[k]? = some xs ∧ atI (ps.map V.ref) (k : Int) = some (.ref p) ∧ H p = some (.lst ((natI xs).map V.int)) := by
  have hkp : k < ps.length := by rw [h.2.1.1]; exact hk
  have h1 := List.getElem?_eq_getElem hkp
  have h2 := List.getElem?_eq_getElem hk
  exact ⟨_, _, h1, h2, atI_nat (by rw [List.getElem?_map, h1]; rfl), h.2.1.2 k _ _ h1 h2⟩
end Dpr

namespace Dpr
open PySem PySem.Spec PyProof.Rows L2
/-- for (x, y, ..) in a list that stands -/
theorem for_lg {K : PySem.W.Frag} {D : Ends} {σ : L2.St} {H : Hp} {t : TS} {g : TG} {a : Addr} (xs : List V) (Pv : Nat → L2.St → Hp → Prop) (h0 : Pv 0 σ H) (hl : ∀ i σ H, i ≤ xs.length → Pv i σ H → SqL K H a xs)
    (hs : ∀ i x σ' H', xs[i]? = some x → Pv i σ' H' → g x σ' H' fun σ2 H2 => t { D with nx := Pv (i + 1), ct := Pv (i + 1), bk := D.nx } σ2 H2) (hd : ∀ σ' H', Pv xs.length σ' H' → D.nx σ' H') : ForB (Itl K a) g t D σ H :=
  for_list Pv h0 hl hs hd
/-! [tab[w] for w in a tuple, a list] -/
section
variable {K : PySem.W.Frag} {σ : L2.St} {H : Hp} {Q : VK} {vs : List Nat} {a tab : Addr} {j s : Nat} {L : List Int}
theorem look_step {xs : List V} (ws : List Nat) (f : Nat → Int) (hxs : xs = (natI ws).map V.int) (h1 : ∀ x, ((wipe σ vs).set j (some x))[s]? = some (some (.ref tab))) (h2 : ∀ x, ((wipe σ vs).set j (some x))[j]? = some (some x)) (hT : SqL K H tab (L.map V.int)) (hL : ∀ w ∈ ws, atI (L.map V.int) (w : Int) = some (.int (f w)))
    (i : Nat) (x y : V) (H' : Hp) (Q' : VK) (hx : xs[i]? = some x) (hy : ((ws.map f).map V.int)[i]? = some y) (sm : Same H H') (k : Q' y H') : tOp (rIxL K) (tVar s) (tVar j) ((wipe σ vs).set j (some x)) H' Q' := by
  subst hxs
  obtain ⟨z, hz, rfl⟩ := get_map hx
  obtain ⟨w, hw, rfl⟩ := natI_get hz
  rw [List.getElem?_map, List.getElem?_map, hw] at hy
  cases hy
  exact ⟨_, h1 _, _, h2 _, _, _, _, _, rfl, rfl, sm.seq hT, hL w (List.mem_of_getElem? hw), k⟩
theorem lc_lookT (ws : List Nat) (f : Nat → Int) {xs : List V} (hxs : xs = (natI ws).map V.int) (hS : SqT K H a xs) (hz : ws.length ≤ 100000) (hw : ∀ x, wipe ((wipe σ vs).set j (some x)) vs = wipe σ vs) (h1 : ∀ x, ((wipe σ vs).set j (some x))[s]? = some (some (.ref tab))) (h2 : ∀ x, ((wipe σ vs).set j (some x))[j]? = some (some x))
    (hT : SqL K H tab (L.map V.int)) (hL : ∀ w ∈ ws, atI (L.map V.int) (w : Int) = some (.int (f w))) (q : ∀ p H', H p = none → Same H H' → H' p = some (.lst ((ws.map f).map V.int)) → Q (.ref p) H') : LcB (Itt K a) (gName j) tYes (tOp (rIxL K) (tVar s) (tVar j)) vs σ Q H :=
  lc_t xs ((ws.map f).map V.int) (by rw [hxs, List.length_map, List.length_map, List.length_map, natI_len]) hS (by rw [hxs, List.length_map, natI_len]; omega) hw (fun i x y H' Q' hx hy sm k => look_step ws f hxs h1 h2 hT hL i x y H' Q' hx hy sm k) q
theorem lc_lookL (ws : List Nat) (f : Nat → Int) {xs : List V} (hxs : xs = (natI ws).map V.int) (hS : SqL K H a xs) (hz : ws.length ≤ 100000) (hw : ∀ x, wipe ((wipe σ vs).set j (some x)) vs = wipe σ vs) (h1 : ∀ x, ((wipe σ vs).set j (some x))[s]? = some (some (.ref tab))) (h2 : ∀ x, ((wipe σ vs).set j (some x))[j]? = some (some x))
    (hT : SqL K H tab (L.map V.int)) (hL : ∀ w ∈ ws, atI (L.map V.int) (w : Int) = some (.int (f w))) (q : ∀ p H', H p = none → Same H H' → H' p = some (.lst ((ws.map f).map V.int)) → Q (.ref p) H') : LcB (Itl K a) (gName j) tYes (tOp (rIxL K) (tVar s) (tVar j)) vs σ Q H :=
  lc_l xs ((ws.map f).map V.int) (by rw [hxs, List.length_map, List.length_map, List.length_map, natI_len]) hS (by rw [hxs, List.length_map, natI_len]; omega) hw (fun i x y H' Q' hx hy sm k => look_step ws f hxs h1 h2 hT hL i x y H' Q' hx hy sm k) q
end
theorem bit_at' {ws : List (Str × Int)} {ks : List Row} {w : Nat} (h : w < ks.length) : atI ((toldL ws ks).map V.int) (w : Int) = some (.int (bit ws ks w)) := by
  rw [bit_get (by rw [toldL_len]; exact h)]
  rfl
theorem dep_at' {ks : List Row} {w : Nat} (h : w < ks.length) : atI ((depthL ks).map V.int) (w : Int) = some (.int (dep ks w)) := by
  rw [bit_get (by rw [show (depthL ks).length = ks.length from runL_len ..]; exact h)]
  rfl
end Dpr

namespace Dpr
open PySem PySem.Spec PyProof.Rows L2
/-! formulas -/
inductive Fm where
  | name (n : Str) | num (n : Int) | plus (f g : Fm) | less (f g : Fm) | times (f g : Fm) | turned (f : Fm)
def FmAt (H : Hp) : Addr → Fm → Prop
  | p, .name n => H p = some (.tup [.str "name", .str n])
  | p, .num n => H p = some (.tup [.str "number", .int n])
  | p, .plus f g => ∃ a b, H p = some (.tup [.str "plus", .ref a, .ref b]) ∧ FmAt H a f ∧ FmAt H b g
  | p, .less f g => ∃ a b, H p = some (.tup [.str "less", .ref a, .ref b]) ∧ FmAt H a f ∧ FmAt H b g
  | p, .times f g => ∃ a b, H p = some (.tup [.str "times", .ref a, .ref b]) ∧ FmAt H a f ∧ FmAt H b g
  | p, .turned f => ∃ a, H p = some (.tup [.str "turned", .ref a]) ∧ FmAt H a f
theorem FmAt.keep {H H' : Hp} (s : ∀ p xs, H p = some (.tup xs) → H' p = some (.tup xs)) : ∀ {f : Fm} {p : Addr}, FmAt H p f → FmAt H' p f
  | .name _, _, h => s _ _ h
  | .num _, _, h => s _ _ h
  | .plus _ _, _, ⟨a, b, h1, h2, h3⟩ => ⟨a, b, s _ _ h1, h2.keep s, h3.keep s⟩
  | .less _ _, _, ⟨a, b, h1, h2, h3⟩ => ⟨a, b, s _ _ h1, h2.keep s, h3.keep s⟩
  | .times _ _, _, ⟨a, b, h1, h2, h3⟩ => ⟨a, b, s _ _ h1, h2.keep s, h3.keep s⟩
  | .turned _, _, ⟨a, h1, h2⟩ => ⟨a, s _ _ h1, h2.keep s⟩
theorem FmAt.same {H H' : Hp} {p : Addr} {f : Fm} (s : Same H H') (h : FmAt H p f) : FmAt H' p f := h.keep fun _ _ e => s _ _ e
theorem FmAt.trk {H : Hp} {p : Addr} {f : Fm} (h : FmAt H p f) : ∃ xs, H p = some (.tup xs) := by
  cases f with
  | name n => exact ⟨_, h⟩
  | num n => exact ⟨_, h⟩
  | plus f g => obtain ⟨a, b, h1, _⟩ := h; exact ⟨_, h1⟩
  | less f g => obtain ⟨a, b, h1, _⟩ := h; exact ⟨_, h1⟩
  | times f g => obtain ⟨a, b, h1, _⟩ := h; exact ⟨_, h1⟩
  | turned f => obtain ⟨a, h1, _⟩ := h; exact ⟨_, h1⟩
def Fm.size : Fm → Nat
  | .name _ => 1
  | .num _ => 1
  | .plus f g => f.size + g.size + 1
  | .less f g => f.size + g.size + 1
  | .times f g => f.size + g.size + 1
  | .turned f => f.size + 1
theorem Fm.size_pos : ∀ f : Fm, 1 ≤ f.size
  | .name _ => Nat.le_refl _
  | .num _ => Nat.le_refl _
  | .plus _ _ => by unfold Fm.size; omega
  | .less _ _ => by unfold Fm.size; omega
  | .times _ _ => by unfold Fm.size; omega
  | .turned _ => by unfold Fm.size; omega
/-- its names are some names, its numbers from 0 to 10 ** 12 -/
def FmOk (N : Str → Prop) : Fm → Prop
  | .name n => N n
  | .num n => 0 ≤ n ∧ n ≤ 1000000000000
  | .plus f g => FmOk N f ∧ FmOk N g
  | .less f g => FmOk N f ∧ FmOk N g
  | .times f g => FmOk N f ∧ FmOk N g
  | .turned f => FmOk N f
theorem FmOk.mono {N M : Str → Prop} (h : ∀ n, N n → M n) : ∀ {f : Fm}, FmOk N f → FmOk M f
  | .name _, k => h _ k
  | .num _, k => k
  | .plus _ _, k => ⟨k.1.mono h, k.2.mono h⟩
  | .less _ _, k => ⟨k.1.mono h, k.2.mono h⟩
  | .times _ _, k => ⟨k.1.mono h, k.2.mono h⟩
  | .turned f, k => FmOk.mono (f := f) h (show FmOk N f from k)
def worthF (ws : List (Str × Int)) : Fm → Int
  | .name n => (lookW ws n).getD 0
  | .num n => n
  | .plus f g => worthF ws f + worthF ws g
  | .less f g => worthF ws f - worthF ws g
  | .times f g => worthF ws f * worthF ws g
  | .turned f => -worthF ws f
def WsSmall (ws : List (Str × Int)) : Prop := ∀ n v, lookW ws n = some v → v.natAbs < 2 ^ 250
theorem pow_le_of {a b : Nat} (h : a ≤ b) : 2 ^ a ≤ 2 ^ b := Nat.pow_le_pow_right (by decide) h
theorem worth_abs {N : Str → Prop} {ws : List (Str × Int)} (hw : WsSmall ws) : ∀ {f : Fm}, FmOk N f → (worthF ws f).natAbs < 2 ^ (301 * f.size)
  | .name n, _ => by
    have p : 2 ^ 250 ≤ 2 ^ (301 * Fm.size (.name n)) := pow_le_of (by show 250 ≤ 301 * 1; decide)
    show ((lookW ws n).getD 0).natAbs < _
    cases e : lookW ws n with
    | none => exact Nat.pow_pos (by decide)
    | some v => exact Nat.lt_of_lt_of_le (hw n v e) p
  | .num n, h => by
    have p : 2 ^ 41 ≤ 2 ^ (301 * Fm.size (.num n)) := pow_le_of (by show 41 ≤ 301 * 1; decide)
    have e : 2 ^ 41 = 2199023255552 := by decide
    have h1 := h.1
    have h2 := h.2
    show n.natAbs < _
    omega
  | .plus f g, h => by
    have a := worth_abs hw h.1
    have b := worth_abs hw h.2
    have p1 : 2 ^ (301 * f.size) * 2 ≤ 2 ^ (301 * Fm.size (.plus f g)) := by rw [← Nat.pow_succ]; exact pow_le_of (by show 301 * f.size + 1 ≤ 301 * (f.size + g.size + 1); omega)
    have p2 : 2 ^ (301 * g.size) * 2 ≤ 2 ^ (301 * Fm.size (.plus f g)) := by rw [← Nat.pow_succ]; exact pow_le_of (by show 301 * g.size + 1 ≤ 301 * (f.size + g.size + 1); omega)
    show (worthF ws f + worthF ws g).natAbs < _
    omega
  | .less f g, h => by
    have a := worth_abs hw h.1
    have b := worth_abs hw h.2
    have p1 : 2 ^ (301 * f.size) * 2 ≤ 2 ^ (301 * Fm.size (.less f g)) := by rw [← Nat.pow_succ]; exact pow_le_of (by show 301 * f.size + 1 ≤ 301 * (f.size + g.size + 1); omega)
    have p2 : 2 ^ (301 * g.size) * 2 ≤ 2 ^ (301 * Fm.size (.less f g)) := by rw [← Nat.pow_succ]; exact pow_le_of (by show 301 * g.size + 1 ≤ 301 * (f.size + g.size + 1); omega)
    show (worthF ws f - worthF ws g).natAbs < _
    omega
  | .times f g, h => by
    have a := worth_abs hw h.1
    have b := worth_abs hw h.2
    have p1 : 2 ^ (301 * f.size) * 2 ^ (301 * g.size) ≤ 2 ^ (301 * Fm.size (.times f g)) := by rw [← Nat.pow_add]; exact pow_le_of (by show 301 * f.size + 301 * g.size ≤ 301 * (f.size + g.size + 1); omega)
    show (worthF ws f * worthF ws g).natAbs < _
    rw [Int.natAbs_mul]
    refine Nat.lt_of_lt_of_le ?_ p1
    exact Nat.mul_lt_mul'' a b
  | .turned f, h => by
    have a := worth_abs hw (f := f) h
    have p1 : 2 ^ (301 * f.size) ≤ 2 ^ (301 * Fm.size (.turned f)) := pow_le_of (by show 301 * f.size ≤ 301 * (f.size + 1); omega)
    show (-worthF ws f).natAbs < _
    omega
theorem mul_abs {i j : Int} {n m : Nat} (hi : i.natAbs < 2 ^ n) (hj : j.natAbs < 2 ^ m) (h : n + m ≤ 1000000) : IntMulOk i j :=
  CMulX.ok (show (Builtin.Int.intBits i : Int) + (Builtin.Int.intBits j : Int) ≤ 134217728 by have := bits_of_int hi; have := bits_of_int hj; omega)
/-! a copy of a dict -/
def rCopyD : V → List V → Hp → VK → Prop := fun x xs H Q => ∃ (a : Addr) (kvs : List (Key × V)), x = .ref a ∧ xs = [] ∧ H a = some (.dK kvs) ∧ ∀ p, H p = none → Q (.ref p) (upd H p (.dK kvs))
theorem mt_copyD {X : Cx} : MtR X "dict.copy" rCopyD := by
  intro pins s σ H x xs v us Q I rx rxs h
  obtain ⟨a, kvs, rfl, rfl, e, q⟩ := h
  cases rx
  cases rxs
  obtain ⟨z, hd, vs, rel, dd⟩ := dk_of I.hok e
  refine call_meetsIn PySem.F.slot_dict_copy dd.typeIs PySem.F.entry_dict_copy (PySem.F.args_dict_copy_1 _) (meets_dict_copy (mixKind X.prog X.w) a hd) ⟨vs, dd, by rw [← rel.length]; exact z, fun h' d' _ hs => ?_⟩
  have hm : (s.heap.objs.size == sysModules) = false := beq_eq_false_iff_ne.mpr (Nat.ne_of_gt I.big)
  exact ⟨.ref s.heap.objs.size, upd H s.heap.objs.size (.dK kvs), I.laid (t' := s.toks) (fun b u e => hs b u e) (Nat.le_refl _)
    (show ObjOk X.prog X.w _ _ _ (.dK kvs) from ⟨z, hm, vs, rel, d'⟩), rfl, q _ (I.hok.fresh (Nat.le_refl _))⟩
theorem w_copyD {H : Hp} {Q : VK} {a : Addr} {kvs : List (Key × V)} (h : H a = some (.dK kvs)) (q : ∀ p H', H p = none → Same H H' → H' p = some (.dK kvs) → Q (.ref p) H') : rCopyD (.ref a) [] H Q :=
  ⟨a, kvs, rfl, rfl, h, fun p hp => q p _ hp (same_upd hp) upd_same⟩
theorem w_BM0D {K : PySem.W.Frag} {H : Hp} {Q : VK} {f : V → List V → Hp → VK → Prop} {p : Addr} {kvs : List (Key × V)} (e : H p = some (.dK kvs)) (q : f (.ref p) [] H Q) : BM0 K "dict" f Q (.ref p) H := ⟨.inr (.inr (.inl ⟨rfl, .inl ⟨kvs, e⟩⟩)), q⟩
/-! the last of a list taken off -/
theorem w_pop {H : Hp} {Q : VK} {p : Addr} {xs : List V} {y : V} (e : H p = some (.lst (xs ++ [y]))) (q : Q y (upd H p (.lst xs))) : rPop (.ref p) [] H Q :=
  ⟨p, xs ++ [y], y, rfl, rfl, e, by rw [List.length_append, List.length_singleton, Nat.add_sub_cancel, List.getElem?_append_right (Nat.le_refl _), Nat.sub_self]; rfl, by rw [List.dropLast_concat]; exact q⟩
/-! texts put together -/
def rAddS : R2 := fun x y H Q => ∃ i j : Str, x = .str i ∧ y = .str j ∧ i.length + j.length ≤ sizeLine ∧ Q (.str (i ++ j)) H
theorem op_addS {X : Cx} : OpR X (binaryOp .Add) rAddS := op_add_str
theorem w_addS {H : Hp} {Q : VK} {i j : Str} (h : i.length + j.length ≤ 1000000) (q : Q (.str (i ++ j)) H) : rAddS (.str i) (.str j) H Q := ⟨i, j, rfl, rfl, Nat.le_trans h (by rw [sizeLine_eq]; decide), q⟩
theorem app_cps (x y : Str) : (x ++ y).cps.toList = x.cps.toList ++ y.cps.toList := TL.tl_append x y
theorem len_cps (x : Str) : x.length = x.cps.toList.length := (Array.length_toList).symm
theorem app_len (x y : Str) : (x ++ y).length = x.length + y.length := by rw [len_cps, app_cps, List.length_append, len_cps, len_cps]
end Dpr

namespace Dpr
open PySem PySem.Spec PyProof.Rows L2
/-! a reader of formulas as a function; fuel is the depth -/
/-- how many signs from here on are some signs -/
def runN (ss : List Nat) : List Nat → Nat
  | [] => 0
  | c :: r => if c ∈ ss then runN ss r + 1 else 0
theorem runN_le (ss : List Nat) : ∀ cs : List Nat, runN ss cs ≤ cs.length
  | [] => Nat.le_refl _
  | c :: r => by
    have := runN_le ss r
    unfold runN
    split
    · rw [List.length_cons]; omega
    · exact Nat.zero_le _
theorem runN_mem (ss : List Nat) : ∀ cs : List Nat, ∀ c ∈ cs.take (runN ss cs), c ∈ ss
  | [], c, h => by cases h
  | c :: r, x, h => by
    unfold runN at h
    split at h
    · rename_i hc
      rw [List.take_succ_cons] at h
      rcases List.mem_cons.mp h with e | e
      · rw [e]; exact hc
      · exact runN_mem ss r x e
    · cases h
/-- the head of what is left is none of some signs -/
def OffHead (ss : List Nat) (cs : List Nat) : Prop := ∀ c, cs.head? = some c → c ∉ ss
theorem runN_off {ss cs : List Nat} (h : OffHead ss cs) : runN ss cs = 0 := by
  cases cs with
  | nil => rfl
  | cons c r => unfold runN; rw [if_neg (h c rfl)]
theorem runN_app {ss : List Nat} : ∀ {xs rest : List Nat}, (∀ c ∈ xs, c ∈ ss) → OffHead ss rest → runN ss (xs ++ rest) = xs.length
  | [], rest, _, h => runN_off h
  | x :: xs, rest, hx, h => by
    show (if x ∈ ss then runN ss (xs ++ rest) + 1 else 0) = _
    rw [if_pos (hx x (List.mem_cons_self ..)), runN_app (fun c hc => hx c (List.mem_cons_of_mem _ hc)) h]
    rfl
inductive Pr where
  | out | no | ok (f : Fm) (rest : List Nat)
def digF (cs : List Nat) : Int := cs.foldl (fun (v : Int) (c : Nat) => 10 * v + ((c : Int) - 48)) 0
def smallL : List Nat := [97, 98, 99, 100, 101, 102, 103, 104, 105, 106, 107, 108, 109, 110, 111, 112, 113, 114, 115, 116, 117, 118, 119, 120, 121, 122]
def figL : List Nat := [48, 49, 50, 51, 52, 53, 54, 55, 56, 57]
theorem smallL_eq : ("abcdefghijklmnopqrstuvwxyz" : Str).cps.toList = smallL := by decide +kernel
theorem figL_eq : ("0123456789" : Str).cps.toList = figL := by decide +kernel
theorem small_iff {c : Nat} : c ∈ smallL ↔ 97 ≤ c ∧ c ≤ 122 := by
  unfold smallL
  simp only [List.mem_cons, List.not_mem_nil, or_false]
  omega
theorem fig_iff {c : Nat} : c ∈ figL ↔ 48 ≤ c ∧ c ≤ 57 := by
  unfold figL
  simp only [List.mem_cons, List.not_mem_nil, or_false]
  omega
def leafF (cs : List Nat) : Pr :=
  let a := runN smallL cs
  if 0 < a ∧ a < 7 then .ok (.name ⟨(cs.take a).toArray⟩) (cs.drop a)
  else
    let b := runN figL (cs.drop a)
    if a ≠ 0 ∨ ¬ (0 < b ∧ b < 14) then .no
    else if (cs.head? = some 48 ∧ 1 < b) ∨ 1000000000000 < digF (cs.take b) then .no
    else .ok (.num (digF (cs.take b))) (cs.drop b)
def pieceF (tot piece : List Nat → Pr) : List Nat → Pr
  | 45 :: r => match piece r with
    | .ok f r' => .ok (.turned f) r'
    | e => e
  | 40 :: r => match tot r with
    | .ok f (41 :: r') => .ok f r'
    | .ok _ _ => .no
    | e => e
  | cs => leafF cs
def timesF (piece : List Nat → Pr) : Nat → Fm → List Nat → Pr
  | k + 1, f, 42 :: r => match piece r with
    | .ok g r' => timesF piece k (.times f g) r'
    | e => e
  | _, f, cs => .ok f cs
def prodF (piece : List Nat → Pr) (cs : List Nat) : Pr := match piece cs with
  | .ok f r => timesF piece r.length f r
  | e => e
def sumsF (prod : List Nat → Pr) : Nat → Fm → List Nat → Pr
  | k + 1, f, 43 :: r => match prod r with
    | .ok g r' => sumsF prod k (.plus f g) r'
    | e => e
  | k + 1, f, 45 :: r => match prod r with
    | .ok g r' => sumsF prod k (.less f g) r'
    | e => e
  | _, f, cs => .ok f cs
def totF (prod : List Nat → Pr) (cs : List Nat) : Pr := match prod cs with
  | .ok f r => sumsF prod r.length f r
  | e => e
/-- total, product, piece, with so much fuel -/
def parseN : Nat → (List Nat → Pr) × (List Nat → Pr) × (List Nat → Pr)
  | 0 => (fun _ => .out, fun _ => .out, fun _ => .out)
  | n + 1 => (totF (parseN n).2.1, prodF (parseN n).2.2, pieceF (parseN n).1 (parseN n).2.2)
/-! one step each -/
theorem timesF_stop {p : List Nat → Pr} {k : Nat} {f : Fm} {cs : List Nat} (h : cs.head? ≠ some 42) : timesF p k f cs = .ok f cs := by
  cases k with
  | zero => rfl
  | succ k =>
    unfold timesF
    split
    · exact absurd rfl h
    · rfl
theorem timesF_go {p : List Nat → Pr} {k : Nat} {f : Fm} {r : List Nat} : timesF p (k + 1) f (42 :: r) = match p r with
    | .ok g r' => timesF p k (.times f g) r'
    | e => e := rfl
theorem sumsF_plus {p : List Nat → Pr} {k : Nat} {f : Fm} {r : List Nat} : sumsF p (k + 1) f (43 :: r) = match p r with
    | .ok g r' => sumsF p k (.plus f g) r'
    | e => e := rfl
theorem sumsF_less {p : List Nat → Pr} {k : Nat} {f : Fm} {r : List Nat} : sumsF p (k + 1) f (45 :: r) = match p r with
    | .ok g r' => sumsF p k (.less f g) r'
    | e => e := rfl
theorem sumsF_stop {p : List Nat → Pr} {k : Nat} {f : Fm} {cs : List Nat} (h : cs.head? ≠ some 43) (h2 : cs.head? ≠ some 45) : sumsF p k f cs = .ok f cs := by
  cases k with
  | zero => rfl
  | succ k =>
    unfold sumsF
    split
    · exact absurd rfl h
    · exact absurd rfl h2
    · rfl
theorem pieceF_leaf {t p : List Nat → Pr} {cs : List Nat} (h : cs.head? ≠ some 45) (h2 : cs.head? ≠ some 40) : pieceF t p cs = leafF cs := by
  unfold pieceF
  split
  · exact absurd rfl h
  · exact absurd rfl h2
  · rfl
/-! what a text writes -/
inductive Wr : Nat → Fm → List Nat → Prop
  | name {n : Str} (h0 : 0 < n.cps.toList.length) (h7 : n.cps.toList.length < 7) (hs : ∀ c ∈ n.cps.toList, c ∈ smallL) : Wr 2 (.name n) n.cps.toList
  | num {cs : List Nat} (h0 : 0 < cs.length) (h14 : cs.length < 14) (hs : ∀ c ∈ cs, c ∈ figL) (hz : cs.head? = some 48 → cs.length ≤ 1) (hm : digF cs ≤ 1000000000000) : Wr 2 (.num (digF cs)) cs
  | turned {f : Fm} {cs : List Nat} (h : Wr 2 f cs) : Wr 2 (.turned f) (45 :: cs)
  | held {f : Fm} {cs : List Nat} (h : Wr 0 f cs) : Wr 2 f (40 :: (cs ++ [41]))
  | one {f : Fm} {cs : List Nat} (h : Wr 2 f cs) : Wr 1 f cs
  | sum {f : Fm} {cs : List Nat} (h : Wr 1 f cs) : Wr 0 f cs
  | times {f g : Fm} {cs ds : List Nat} (h : Wr 1 f cs) (k : Wr 2 g ds) : Wr 1 (.times f g) (cs ++ 42 :: ds)
  | plus {f g : Fm} {cs ds : List Nat} (h : Wr 0 f cs) (k : Wr 1 g ds) : Wr 0 (.plus f g) (cs ++ 43 :: ds)
  | less {f g : Fm} {cs ds : List Nat} (h : Wr 0 f cs) (k : Wr 1 g ds) : Wr 0 (.less f g) (cs ++ 45 :: ds)
/-! what is read is written so -/
def Sound (r : Nat) (p : List Nat → Pr) : Prop := ∀ cs f rest, p cs = .ok f rest → ∃ pre, cs = pre ++ rest ∧ Wr r f pre
theorem leaf_sound : Sound 2 leafF := by
  intro cs f rest h
  unfold leafF at h
  dsimp only at h
  split at h
  · rename_i ha
    cases h
    refine ⟨cs.take (runN smallL cs), (List.take_append_drop _ _).symm, ?_⟩
    have hl : (cs.take (runN smallL cs)).length = runN smallL cs := by
      rw [List.length_take]
      exact Nat.min_eq_left (runN_le _ _)
    exact Wr.name (n := ⟨(cs.take (runN smallL cs)).toArray⟩) (by show 0 < (cs.take (runN smallL cs)).length; rw [hl]; exact ha.1) (by show (cs.take (runN smallL cs)).length < 7; rw [hl]; exact ha.2) (runN_mem smallL cs)
  · split at h
    · cases h
    · rename_i hb
      split at h
      · cases h
      · rename_i hc
        cases h
        have ha0 : runN smallL cs = 0 := Classical.byContradiction fun z => hb (.inl z)
        have hb2 := Classical.not_not.mp fun z => hb (.inr z)
        rw [ha0, List.drop_zero] at hb2 hc ⊢
        have hl : (cs.take (runN figL cs)).length = runN figL cs := by
          rw [List.length_take]
          exact Nat.min_eq_left (runN_le _ _)
        refine ⟨cs.take (runN figL cs), (List.take_append_drop _ _).symm, Wr.num (by omega) (by omega) (runN_mem figL cs) (fun e => ?_) (by omega)⟩
        rw [hl]
        refine Nat.le_of_not_lt fun z => hc (.inl ⟨?_, z⟩)
        rw [List.head?_take, if_neg (by omega)] at e
        exact e
theorem times_sound {p : List Nat → Pr} (hp : Sound 2 p) : ∀ (k : Nat) (f : Fm) (pre cs : List Nat) (g : Fm) (rest : List Nat), Wr 1 f pre → timesF p k f cs = .ok g rest → ∃ pre', cs = pre' ++ rest ∧ Wr 1 g (pre ++ pre') := by
  intro k
  induction k with
  | zero =>
    intro f pre cs g rest hf h
    cases h
    exact ⟨[], rfl, by rw [List.append_nil]; exact hf⟩
  | succ k ih =>
    intro f pre cs g rest hf h
    by_cases e : cs.head? = some 42
    · cases cs with
      | nil => cases e
      | cons c r =>
        cases e
        rw [timesF_go] at h
        split at h
        · rename_i g1 r1 e1
          obtain ⟨p1, rfl, h1⟩ := hp _ _ _ e1
          obtain ⟨p2, rfl, h2⟩ := ih _ (pre ++ 42 :: p1) _ _ _ (hf.times h1) h
          refine ⟨42 :: (p1 ++ p2), by rw [List.cons_append, List.append_assoc], ?_⟩
          rw [List.append_assoc, List.cons_append] at h2
          exact h2
        · rename_i q
          exact absurd h (q _ _)
    · rw [timesF_stop e] at h
      cases h
      exact ⟨[], rfl, by rw [List.append_nil]; exact hf⟩
theorem prod_sound {p : List Nat → Pr} (hp : Sound 2 p) : Sound 1 (prodF p) := by
  intro cs f rest h
  unfold prodF at h
  split at h
  · rename_i g r e
    obtain ⟨p1, rfl, h1⟩ := hp _ _ _ e
    obtain ⟨p2, rfl, h2⟩ := times_sound hp _ _ p1 _ _ _ h1.one h
    exact ⟨p1 ++ p2, (List.append_assoc ..).symm, h2⟩
  · rename_i q
    exact absurd h (q _ _)
theorem sums_sound {p : List Nat → Pr} (hp : Sound 1 p) : ∀ (k : Nat) (f : Fm) (pre cs : List Nat) (g : Fm) (rest : List Nat), Wr 0 f pre → sumsF p k f cs = .ok g rest → ∃ pre', cs = pre' ++ rest ∧ Wr 0 g (pre ++ pre') := by
  intro k
  induction k with
  | zero =>
    intro f pre cs g rest hf h
    cases h
    exact ⟨[], rfl, by rw [List.append_nil]; exact hf⟩
  | succ k ih =>
    intro f pre cs g rest hf h
    by_cases e : cs.head? = some 43
    · cases cs with
      | nil => cases e
      | cons c r =>
        cases e
        rw [sumsF_plus] at h
        split at h
        · rename_i g1 r1 e1
          obtain ⟨p1, rfl, h1⟩ := hp _ _ _ e1
          obtain ⟨p2, rfl, h2⟩ := ih _ (pre ++ 43 :: p1) _ _ _ (hf.plus h1) h
          refine ⟨43 :: (p1 ++ p2), by rw [List.cons_append, List.append_assoc], ?_⟩
          rw [List.append_assoc, List.cons_append] at h2
          exact h2
        · rename_i q
          exact absurd h (q _ _)
    · by_cases e2 : cs.head? = some 45
      · cases cs with
        | nil => cases e2
        | cons c r =>
          cases e2
          rw [sumsF_less] at h
          split at h
          · rename_i g1 r1 e1
            obtain ⟨p1, rfl, h1⟩ := hp _ _ _ e1
            obtain ⟨p2, rfl, h2⟩ := ih _ (pre ++ 45 :: p1) _ _ _ (hf.less h1) h
            refine ⟨45 :: (p1 ++ p2), by rw [List.cons_append, List.append_assoc], ?_⟩
            rw [List.append_assoc, List.cons_append] at h2
            exact h2
          · rename_i q
            exact absurd h (q _ _)
      · rw [sumsF_stop e e2] at h
        cases h
        exact ⟨[], rfl, by rw [List.append_nil]; exact hf⟩
theorem tot_sound {p : List Nat → Pr} (hp : Sound 1 p) : Sound 0 (totF p) := by
  intro cs f rest h
  unfold totF at h
  split at h
  · rename_i g r e
    obtain ⟨p1, rfl, h1⟩ := hp _ _ _ e
    obtain ⟨p2, rfl, h2⟩ := sums_sound hp _ _ p1 _ _ _ h1.sum h
    exact ⟨p1 ++ p2, (List.append_assoc ..).symm, h2⟩
  · rename_i q
    exact absurd h (q _ _)
theorem piece_sound {t p : List Nat → Pr} (ht : Sound 0 t) (hp : Sound 2 p) : Sound 2 (pieceF t p) := by
  intro cs f rest h
  unfold pieceF at h
  split at h
  · split at h
    · rename_i g r e
      cases h
      obtain ⟨p1, rfl, h1⟩ := hp _ _ _ e
      exact ⟨45 :: p1, rfl, h1.turned⟩
    · rename_i q
      exact absurd h (q _ _)
  · split at h
    · rename_i g r e
      cases h
      obtain ⟨p1, rfl, h1⟩ := ht _ _ _ e
      exact ⟨40 :: (p1 ++ [41]), by rw [List.cons_append, List.append_assoc]; rfl, h1.held⟩
    · cases h
    · rename_i q
      exact absurd h (q _ _)
  · exact leaf_sound _ _ _ h
theorem parse_sound : ∀ n : Nat, Sound 0 (parseN n).1 ∧ Sound 1 (parseN n).2.1 ∧ Sound 2 (parseN n).2.2
  | 0 => ⟨(fun _ _ _ h => by cases h), (fun _ _ _ h => by cases h), (fun _ _ _ h => by cases h)⟩
  | n + 1 => ⟨tot_sound (parse_sound n).2.1, prod_sound (parse_sound n).2.2, piece_sound (parse_sound n).1 (parse_sound n).2.2⟩
/-! there is fuel enough -/
def wgt (cs : List Nat) : Nat := cs.countP fun c => c == 40 || c == 45
theorem wgt_app (xs ys : List Nat) : wgt (xs ++ ys) = wgt xs + wgt ys := List.countP_append ..
theorem wgt_cons (c : Nat) (xs : List Nat) : wgt xs ≤ wgt (c :: xs) := by
  rw [← List.singleton_append, wgt_app]
  omega
theorem wgt_40 (xs : List Nat) : wgt (40 :: xs) = wgt xs + 1 := List.countP_cons_of_pos rfl
theorem wgt_45 (xs : List Nat) : wgt (45 :: xs) = wgt xs + 1 := List.countP_cons_of_pos rfl
theorem wgt_le_len (xs : List Nat) : wgt xs ≤ xs.length := List.countP_le_length
def NoOut (p : List Nat → Pr) (m : Nat) : Prop := ∀ cs, wgt cs ≤ m → p cs ≠ .out
theorem leaf_noOut (cs : List Nat) : leafF cs ≠ .out := by
  unfold leafF
  dsimp only
  split
  · intro h; cases h
  · split
    · intro h; cases h
    · split <;> (intro h; cases h)
theorem times_noOut {p : List Nat → Pr} {m : Nat} (hs : Sound 2 p) (hp : NoOut p m) : ∀ (k : Nat) (f : Fm) (cs : List Nat), wgt cs ≤ m → timesF p k f cs ≠ .out := by
  intro k
  induction k with
  | zero => intro f cs _ h; cases h
  | succ k ih =>
    intro f cs hm
    by_cases e : cs.head? = some 42
    · cases cs with
      | nil => cases e
      | cons c r =>
        cases e
        rw [timesF_go]
        have hr : wgt r ≤ m := Nat.le_trans (wgt_cons 42 r) hm
        split
        · rename_i g1 r1 e1
          obtain ⟨p1, rfl, h1⟩ := hs _ _ _ e1
          rw [wgt_app] at hr
          exact ih _ _ (by omega)
        · exact hp _ hr
    · rw [timesF_stop e]
      intro h; cases h
theorem prod_noOut {p : List Nat → Pr} {m : Nat} (hs : Sound 2 p) (hp : NoOut p m) : NoOut (prodF p) m := by
  intro cs hm
  unfold prodF
  split
  · rename_i g r e
    obtain ⟨p1, rfl, h1⟩ := hs _ _ _ e
    rw [wgt_app] at hm
    exact times_noOut hs hp _ _ _ (by omega)
  · exact hp _ hm
theorem sums_noOut {p : List Nat → Pr} {m : Nat} (hs : Sound 1 p) (hp : NoOut p m) : ∀ (k : Nat) (f : Fm) (cs : List Nat), wgt cs ≤ m → sumsF p k f cs ≠ .out := by
  intro k
  induction k with
  | zero => intro f cs _ h; cases h
  | succ k ih =>
    intro f cs hm
    by_cases e : cs.head? = some 43
    · cases cs with
      | nil => cases e
      | cons c r =>
        cases e
        rw [sumsF_plus]
        have hr : wgt r ≤ m := Nat.le_trans (wgt_cons 43 r) hm
        split
        · rename_i g1 r1 e1
          obtain ⟨p1, rfl, h1⟩ := hs _ _ _ e1
          rw [wgt_app] at hr
          exact ih _ _ (by omega)
        · exact hp _ hr
    · by_cases e2 : cs.head? = some 45
      · cases cs with
        | nil => cases e2
        | cons c r =>
          cases e2
          rw [sumsF_less]
          have hr : wgt r ≤ m := Nat.le_trans (wgt_cons 45 r) hm
          split
          · rename_i g1 r1 e1
            obtain ⟨p1, rfl, h1⟩ := hs _ _ _ e1
            rw [wgt_app] at hr
            exact ih _ _ (by omega)
          · exact hp _ hr
      · rw [sumsF_stop e e2]
        intro h; cases h
theorem tot_noOut {p : List Nat → Pr} {m : Nat} (hs : Sound 1 p) (hp : NoOut p m) : NoOut (totF p) m := by
  intro cs hm
  unfold totF
  split
  · rename_i g r e
    obtain ⟨p1, rfl, h1⟩ := hs _ _ _ e
    rw [wgt_app] at hm
    exact sums_noOut hs hp _ _ _ (by omega)
  · exact hp _ hm
theorem piece_noOut {t p : List Nat → Pr} {m : Nat} (hp : NoOut p m) (ht : NoOut t m) : NoOut (pieceF t p) (m + 1) := by
  intro cs hm
  unfold pieceF
  split
  · rw [wgt_45] at hm
    split
    · intro h; cases h
    · exact hp _ (by omega)
  · rw [wgt_40] at hm
    split
    · intro h; cases h
    · intro h; cases h
    · exact ht _ (by omega)
  · exact leaf_noOut _
theorem piece_noOut0 {t p : List Nat → Pr} : NoOut (pieceF t p) 0 := by
  intro cs hm
  unfold pieceF
  split
  · rw [wgt_45] at hm
    omega
  · rw [wgt_40] at hm
    omega
  · exact leaf_noOut _
theorem NoOut.mono {p : List Nat → Pr} {m k : Nat} (h : NoOut p m) (l : k ≤ m) : NoOut p k := fun cs hc => h cs (Nat.le_trans hc l)
theorem parse_noOut : ∀ n m : Nat, (3 * m + 3 ≤ n → NoOut (parseN n).1 m) ∧ (3 * m + 2 ≤ n → NoOut (parseN n).2.1 m) ∧ (3 * m + 1 ≤ n → NoOut (parseN n).2.2 m)
  | 0, m => ⟨fun h => by omega, fun h => by omega, fun h => by omega⟩
  | n + 1, m => by
    have ih := parse_noOut n m
    refine ⟨fun h => tot_noOut (parse_sound n).2.1 (ih.2.1 (by omega)), fun h => prod_noOut (parse_sound n).2.2 (ih.2.2 (by omega)), fun h => ?_⟩
    cases m with
    | zero => exact piece_noOut0
    | succ m =>
      have ih := parse_noOut n m
      exact piece_noOut (ih.2.2 (by omega)) (ih.1 (by omega))
/-! what is written so is read -/
def Stop (cs : List Nat) : Prop := ∀ c, cs.head? = some c → c ∉ smallL ∧ c ∉ figL
theorem stop_nil : Stop [] := fun _ h => by cases h
theorem stop_cons {c : Nat} {r : List Nat} (h : c < 48) : Stop (c :: r) := fun d e => by
  cases e
  exact ⟨fun z => by have := small_iff.mp z; omega, fun z => by have := fig_iff.mp z; omega⟩
def FullW (r : Nat) (f : Fm) (cs : List Nat) : Prop := match r with
  | 2 => ∀ n rest, 3 * wgt cs + 1 ≤ n → Stop rest → (parseN n).2.2 (cs ++ rest) = .ok f rest
  | 1 => ∀ n rest, 3 * wgt cs + 2 ≤ n → Stop rest → ∃ k, rest.length ≤ k ∧ (parseN n).2.1 (cs ++ rest) = timesF (parseN (n - 1)).2.2 k f rest
  | _ => ∀ n rest, 3 * wgt cs + 3 ≤ n → Stop rest → rest.head? ≠ some 42 → ∃ k, rest.length ≤ k ∧ (parseN n).1 (cs ++ rest) = sumsF (parseN (n - 1)).2.1 k f rest
theorem leaf_name {n : Str} {rest : List Nat} (h0 : 0 < n.cps.toList.length) (h7 : n.cps.toList.length < 7) (hs : ∀ c ∈ n.cps.toList, c ∈ smallL) (st : Stop rest) : leafF (n.cps.toList ++ rest) = .ok (.name n) rest := by
  have e : runN smallL (n.cps.toList ++ rest) = n.cps.toList.length := runN_app hs (fun c h => (st c h).1)
  unfold leafF
  dsimp only
  rw [e, if_pos ⟨h0, h7⟩, List.take_left' rfl, List.drop_left' rfl]
theorem leaf_num {cs rest : List Nat} (h0 : 0 < cs.length) (h14 : cs.length < 14) (hs : ∀ c ∈ cs, c ∈ figL) (hz : cs.head? = some 48 → cs.length ≤ 1) (hm : digF cs ≤ 1000000000000) (st : Stop rest) : leafF (cs ++ rest) = .ok (.num (digF cs)) rest := by
  have e : runN figL (cs ++ rest) = cs.length := runN_app hs (fun c h => (st c h).2)
  have hh : (cs ++ rest).head? = cs.head? := by
    cases cs with
    | nil => cases h0
    | cons c r => rfl
  have e0 : runN smallL (cs ++ rest) = 0 := runN_off fun c h z => by
    rw [hh] at h
    have hc := hs c (List.mem_of_mem_head? h)
    have := small_iff.mp z
    have := fig_iff.mp hc
    omega
  unfold leafF
  dsimp only
  rw [e0, if_neg (by omega), List.drop_zero, e, if_neg (by omega), hh, List.take_left' rfl, List.drop_left' rfl, if_neg (by
    rintro (⟨a, b⟩ | b)
    · have := hz a
      omega
    · omega)]
theorem piece_leaf {n : Nat} {cs : List Nat} (h : cs.head? ≠ some 45) (h2 : cs.head? ≠ some 40) : (parseN (n + 1)).2.2 cs = leafF cs := pieceF_leaf h h2
theorem Wr.full {r : Nat} {f : Fm} {cs : List Nat} (h : Wr r f cs) : FullW r f cs := by
  induction h with
  | @name m h0 h7 hs =>
    intro n rest hn st
    obtain ⟨n, rfl⟩ : ∃ k, n = k + 1 := ⟨n - 1, by omega⟩
    have hh : ∀ d, (m.cps.toList ++ rest).head? = some d → d ∈ smallL := fun d e => by
      cases hc : m.cps.toList with
      | nil => rw [hc] at h0; cases h0
      | cons c r =>
        rw [hc] at e hs
        rw [← Option.some.inj (show some c = some d from e)]
        exact hs c (List.mem_cons_self ..)
    rw [piece_leaf (fun z => by have := small_iff.mp (hh _ z); omega) (fun z => by have := small_iff.mp (hh _ z); omega)]
    exact leaf_name h0 h7 hs st
  | @num cs h0 h14 hs hz hm =>
    intro n rest hn st
    obtain ⟨n, rfl⟩ : ∃ k, n = k + 1 := ⟨n - 1, by omega⟩
    have hh : ∀ d, (cs ++ rest).head? = some d → d ∈ figL := fun d e => by
      cases cs with
      | nil => cases h0
      | cons c r =>
        rw [← Option.some.inj (show some c = some d from e)]
        exact hs c (List.mem_cons_self ..)
    rw [piece_leaf (fun z => by have := fig_iff.mp (hh _ z); omega) (fun z => by have := fig_iff.mp (hh _ z); omega)]
    exact leaf_num h0 h14 hs hz hm st
  | @turned f cs h ih =>
    intro n rest hn st
    rw [wgt_45] at hn
    obtain ⟨n, rfl⟩ : ∃ k, n = k + 1 := ⟨n - 1, by omega⟩
    have e := ih n rest (by omega) st
    show (match (parseN n).2.2 (cs ++ rest) with
      | .ok f r' => Pr.ok (.turned f) r'
      | e => e) = _
    rw [e]
  | @held f cs h ih =>
    intro n rest hn st
    rw [wgt_40, wgt_app] at hn
    obtain ⟨n, rfl⟩ : ∃ k, n = k + 1 := ⟨n - 1, by omega⟩
    obtain ⟨k, hk, e⟩ := ih n (41 :: rest) (by omega) (stop_cons (by decide)) (by intro z; cases z)
    rw [sumsF_stop (by intro z; cases z) (by intro z; cases z)] at e
    show (match (parseN n).1 ((cs ++ [41]) ++ rest) with
      | .ok f (41 :: r') => Pr.ok f r'
      | .ok _ _ => .no
      | e => e) = _
    rw [List.append_assoc]
    show (match (parseN n).1 (cs ++ 41 :: rest) with
      | .ok f (41 :: r') => Pr.ok f r'
      | .ok _ _ => .no
      | e => e) = _
    rw [e]
    rfl
  | @one f cs h ih =>
    intro n rest hn st
    obtain ⟨n, rfl⟩ : ∃ k, n = k + 1 := ⟨n - 1, by omega⟩
    have e := ih n rest (by omega) st
    refine ⟨rest.length, Nat.le_refl _, ?_⟩
    show (match (parseN n).2.2 (cs ++ rest) with
      | .ok f r => timesF (parseN n).2.2 r.length f r
      | e => e) = _
    rw [e]
    rfl
  | @sum f cs h ih =>
    intro n rest hn st nt
    obtain ⟨n, rfl⟩ : ∃ k, n = k + 1 := ⟨n - 1, by omega⟩
    obtain ⟨k, hk, e⟩ := ih n rest (by omega) st
    rw [timesF_stop nt] at e
    refine ⟨rest.length, Nat.le_refl _, ?_⟩
    show (match (parseN n).2.1 (cs ++ rest) with
      | .ok f r => sumsF (parseN n).2.1 r.length f r
      | e => e) = _
    rw [e]
    rfl
  | @times f g cs ds h k ih ik =>
    intro n rest hn st
    rw [wgt_app] at hn
    have w := wgt_cons 42 ds
    obtain ⟨j, hj, e⟩ := ih n (42 :: (ds ++ rest)) (by omega) (stop_cons (by decide))
    rw [List.length_cons, List.length_append] at hj
    obtain ⟨j, rfl⟩ : ∃ i, j = i + 1 := ⟨j - 1, by omega⟩
    rw [timesF_go, ik (n - 1) rest (by omega) st] at e
    refine ⟨j, by omega, ?_⟩
    rw [List.append_assoc, List.cons_append]
    exact e
  | @plus f g cs ds h k ih ik =>
    intro n rest hn st nt
    rw [wgt_app] at hn
    have w := wgt_cons 43 ds
    obtain ⟨j, hj, e⟩ := ih n (43 :: (ds ++ rest)) (by omega) (stop_cons (by decide)) (by intro z; cases z)
    rw [List.length_cons, List.length_append] at hj
    obtain ⟨j, rfl⟩ : ∃ i, j = i + 1 := ⟨j - 1, by omega⟩
    obtain ⟨i, hi, e2⟩ := ik (n - 1) rest (by omega) st
    rw [timesF_stop nt] at e2
    rw [sumsF_plus, e2] at e
    refine ⟨j, by omega, ?_⟩
    rw [List.append_assoc, List.cons_append]
    exact e
  | @less f g cs ds h k ih ik =>
    intro n rest hn st nt
    rw [wgt_app, wgt_45] at hn
    obtain ⟨j, hj, e⟩ := ih n (45 :: (ds ++ rest)) (by omega) (stop_cons (by decide)) (by intro z; cases z)
    rw [List.length_cons, List.length_append] at hj
    obtain ⟨j, rfl⟩ : ∃ i, j = i + 1 := ⟨j - 1, by omega⟩
    obtain ⟨i, hi, e2⟩ := ik (n - 1) rest (by omega) st
    rw [timesF_stop nt] at e2
    rw [sumsF_less, e2] at e
    refine ⟨j, by omega, ?_⟩
    rw [List.append_assoc, List.cons_append]
    exact e
/-- a whole text read -/
theorem read_whole {f : Fm} {cs : List Nat} {n : Nat} (h : Wr 0 f cs) (hn : 3 * wgt cs + 3 ≤ n) : (parseN n).1 cs = .ok f [] := by
  obtain ⟨k, _, e⟩ := h.full n [] hn stop_nil (by intro z; cases z)
  rw [List.append_nil, sumsF_stop (by intro z; cases z) (by intro z; cases z)] at e
  exact e
theorem read_none {cs : List Nat} {n : Nat} (h : ∀ f, ¬ Wr 0 f cs) (hn : 3 * wgt cs + 3 ≤ n) : (parseN n).1 cs = .no ∨ ∃ f c r, (parseN n).1 cs = .ok f (c :: r) := by
  have no := (parse_noOut n (wgt cs)).1 hn cs (Nat.le_refl _)
  cases e : (parseN n).1 cs with
  | out => exact absurd e no
  | no => exact .inl rfl
  | ok f r =>
    cases r with
    | nil =>
      obtain ⟨p, rfl, hw⟩ := (parse_sound n).1 _ _ _ e
      rw [List.append_nil] at h
      exact absurd hw (h f)
    | cons c r => exact .inr ⟨f, c, r, rfl⟩
end Dpr

namespace Dpr
open PySem PySem.Spec PyProof.Rows L2
/-! texts looked at sign by sign: what no formula's text has -/
inductive Ls where
  | R | L (n : Nat) | Z | D (v : Nat) | C
def lintOp (c : Nat) : Option Ls := if c = 42 ∨ c = 43 ∨ c = 45 then some .R else if c = 41 then some .C else none
def lintS : Ls → Nat → Option Ls
  | .R, c => if 97 ≤ c ∧ c ≤ 122 then some (.L 1) else if c = 48 then some .Z else if 49 ≤ c ∧ c ≤ 57 then some (.D (c - 48)) else if c = 45 ∨ c = 40 then some .R else none
  | .L n, c => if 97 ≤ c ∧ c ≤ 122 then (if n < 6 then some (.L (n + 1)) else none) else lintOp c
  | .Z, c => lintOp c
  | .D v, c => if 48 ≤ c ∧ c ≤ 57 then (if 10 * v + (c - 48) ≤ 1000000000000 then some (.D (10 * v + (c - 48))) else none) else lintOp c
  | .C, c => lintOp c
def lint : Ls → List Nat → Option Ls
  | s, [] => some s
  | s, c :: r => match lintS s c with
    | some t => lint t r
    | none => none
def LDone : Ls → Prop
  | .R => False
  | _ => True
theorem lint_app : ∀ (xs ys : List Nat) (s : Ls), lint s (xs ++ ys) = match lint s xs with
    | some t => lint t ys
    | none => none
  | [], ys, s => rfl
  | c :: xs, ys, s => by
    show (match lintS s c with
      | some t => lint t (xs ++ ys)
      | none => none) = match (match lintS s c with
      | some t => lint t xs
      | none => none) with
      | some t => lint t ys
      | none => none
    cases lintS s c with
    | none => rfl
    | some t => exact lint_app xs ys t
theorem lint_none {xs ys : List Nat} {s : Ls} (h : lint s xs = none) : lint s (xs ++ ys) = none := by rw [lint_app, h]
theorem lint_some {xs ys : List Nat} {s t : Ls} (h : lint s xs = some t) : lint s (xs ++ ys) = lint t ys := by rw [lint_app, h]
theorem lint_cons {s t : Ls} {c : Nat} {r : List Nat} (h : lintS s c = some t) : lint s (c :: r) = lint t r := by
  show (match lintS s c with
    | some t => lint t r
    | none => none) = _
  rw [h]
theorem lint_fail {s : Ls} {c : Nat} {r : List Nat} (h : lintS s c = none) : lint s (c :: r) = none := by
  show (match lintS s c with
    | some t => lint t r
    | none => none) = _
  rw [h]
/-- behind what is done a sign goes on -/
theorem done_op {s : Ls} (h : LDone s) {c : Nat} (hc : c = 42 ∨ c = 43 ∨ c = 45) : lintS s c = some .R := by
  have e : lintOp c = some .R := if_pos hc
  cases s with
  | R => exact h.elim
  | L n => exact (if_neg (by omega)).trans e
  | Z => exact e
  | D v => exact (if_neg (by omega)).trans e
  | C => exact e
theorem done_close {s : Ls} (h : LDone s) : lintS s 41 = some .C := by
  cases s with
  | R => exact h.elim
  | _ => rfl
theorem lint_small : ∀ (cs : List Nat) (n : Nat), (∀ c ∈ cs, c ∈ smallL) → n + cs.length ≤ 6 → lint (.L n) cs = some (.L (n + cs.length))
  | [], n, _, _ => rfl
  | c :: cs, n, h, hn => by
    rw [List.length_cons] at hn
    have hc := small_iff.mp (h c (List.mem_cons_self ..))
    have e : lintS (.L n) c = some (.L (n + 1)) := by
      show (if 97 ≤ c ∧ c ≤ 122 then (if n < 6 then some (Ls.L (n + 1)) else none) else lintOp c) = _
      rw [if_pos hc, if_pos (by omega)]
    rw [lint_cons e, lint_small cs (n + 1) (fun d hd => h d (List.mem_cons_of_mem _ hd)) (by omega), List.length_cons, show n + 1 + cs.length = n + (cs.length + 1) by omega]
theorem dig_ge : ∀ (cs : List Nat) (v : Int), 0 ≤ v → (∀ c ∈ cs, c ∈ figL) → v ≤ cs.foldl (fun (v : Int) (c : Nat) => 10 * v + ((c : Int) - 48)) v
  | [], v, _, _ => Int.le_refl _
  | c :: cs, v, hv, h => by
    have hc := fig_iff.mp (h c (List.mem_cons_self ..))
    have := dig_ge cs (10 * v + ((c : Int) - 48)) (by omega) fun d hd => h d (List.mem_cons_of_mem _ hd)
    show v ≤ cs.foldl _ (10 * v + ((c : Int) - 48))
    omega
theorem lint_fig : ∀ (cs : List Nat) (v : Nat), (∀ c ∈ cs, c ∈ figL) → cs.foldl (fun (v : Int) (c : Nat) => 10 * v + ((c : Int) - 48)) (v : Int) ≤ 1000000000000 → ∃ u, lint (.D v) cs = some (.D u)
  | [], v, _, _ => ⟨v, rfl⟩
  | c :: cs, v, h, hm => by
    have hc := fig_iff.mp (h c (List.mem_cons_self ..))
    have hm : cs.foldl (fun (v : Int) (c : Nat) => 10 * v + ((c : Int) - 48)) (10 * (v : Int) + ((c : Int) - 48)) ≤ 1000000000000 := hm
    rw [show 10 * (v : Int) + ((c : Int) - 48) = ((10 * v + (c - 48) : Nat) : Int) by omega] at hm
    have ge := dig_ge cs ((10 * v + (c - 48) : Nat) : Int) (by omega) fun d hd => h d (List.mem_cons_of_mem _ hd)
    have e : lintS (.D v) c = some (.D (10 * v + (c - 48))) := by
      show (if 48 ≤ c ∧ c ≤ 57 then (if 10 * v + (c - 48) ≤ 1000000000000 then some (Ls.D (10 * v + (c - 48))) else none) else lintOp c) = _
      rw [if_pos hc, if_pos (by omega)]
    rw [lint_cons e]
    exact lint_fig cs _ (fun d hd => h d (List.mem_cons_of_mem _ hd)) hm
def bal (cs : List Nat) : Int := (cs.count 40 : Int) - (cs.count 41 : Int)
theorem bal_app (xs ys : List Nat) : bal (xs ++ ys) = bal xs + bal ys := by
  unfold bal
  rw [List.count_append, List.count_append]
  omega
theorem bal_cons {c : Nat} (h : c ≠ 40 ∧ c ≠ 41) (xs : List Nat) : bal (c :: xs) = bal xs := by
  unfold bal
  rw [List.count_cons_of_ne h.1, List.count_cons_of_ne h.2]
theorem bal_held (xs : List Nat) : bal (40 :: (xs ++ [41])) = bal xs := by
  rw [← List.singleton_append, bal_app, bal_app]
  show 1 + (bal xs + -1) = _
  omega
theorem bal_off : ∀ (cs : List Nat), (∀ c ∈ cs, 42 ≤ c) → bal cs = 0
  | [], _ => rfl
  | c :: cs, h => by
    have hc := h c (List.mem_cons_self ..)
    rw [bal_cons (by omega)]
    exact bal_off cs fun d hd => h d (List.mem_cons_of_mem _ hd)
def Clean (cs : List Nat) : Prop := (∃ s, lint .R cs = some s ∧ LDone s) ∧ bal cs = 0
theorem Clean.two {cs ds : List Nat} {c : Nat} (h : Clean cs) (k : Clean ds) (hc : c = 42 ∨ c = 43 ∨ c = 45) : Clean (cs ++ c :: ds) := by
  obtain ⟨⟨s, e, d⟩, b⟩ := h
  obtain ⟨⟨t, e2, d2⟩, b2⟩ := k
  refine ⟨⟨t, ?_, d2⟩, ?_⟩
  · rw [lint_some e, lint_cons (done_op d hc), e2]
  · rw [bal_app, bal_cons (by omega), b, b2]
    rfl
theorem Clean.held {cs : List Nat} (h : Clean cs) : Clean (40 :: (cs ++ [41])) := by
  obtain ⟨⟨s, e, d⟩, b⟩ := h
  refine ⟨⟨.C, ?_, trivial⟩, by rw [bal_held, b]⟩
  rw [lint_cons (show lintS .R 40 = some .R from rfl), lint_some e, lint_cons (done_close d)]
  rfl
theorem Clean.turned {cs : List Nat} (h : Clean cs) : Clean (45 :: cs) := by
  obtain ⟨⟨s, e, d⟩, b⟩ := h
  exact ⟨⟨s, by rw [lint_cons (show lintS .R 45 = some .R from rfl), e], d⟩, by rw [bal_cons (by decide), b]⟩
theorem Wr.clean {r : Nat} {f : Fm} {cs : List Nat} (h : Wr r f cs) : Clean cs := by
  induction h with
  | @name m h0 h7 hs =>
    refine ⟨?_, bal_off _ fun c hc => by have := small_iff.mp (hs c hc); omega⟩
    cases e : m.cps.toList with
    | nil => rw [e] at h0; cases h0
    | cons c r =>
      rw [e] at hs h7
      rw [List.length_cons] at h7
      have hc := small_iff.mp (hs c (List.mem_cons_self ..))
      refine ⟨.L (1 + r.length), ?_, trivial⟩
      rw [lint_cons (show lintS .R c = some (.L 1) from if_pos hc)]
      exact lint_small r 1 (fun d hd => hs d (List.mem_cons_of_mem _ hd)) (by omega)
  | @num cs h0 h14 hs hz hm =>
    refine ⟨?_, bal_off _ fun c hc => by have := fig_iff.mp (hs c hc); omega⟩
    cases cs with
    | nil => cases h0
    | cons c r =>
      have hc := fig_iff.mp (hs c (List.mem_cons_self ..))
      by_cases c0 : c = 48
      · subst c0
        have := hz rfl
        rw [List.length_cons] at this
        have hr : r = [] := List.eq_nil_of_length_eq_zero (by omega)
        subst hr
        exact ⟨.Z, rfl, trivial⟩
      · have e : lintS .R c = some (.D (c - 48)) := by
          show (if 97 ≤ c ∧ c ≤ 122 then some (Ls.L 1) else if c = 48 then some .Z else if 49 ≤ c ∧ c ≤ 57 then some (.D (c - 48)) else if c = 45 ∨ c = 40 then some .R else none) = _
          rw [if_neg (by omega), if_neg c0, if_pos (by omega)]
        rw [lint_cons e]
        have hm : r.foldl (fun (v : Int) (c : Nat) => 10 * v + ((c : Int) - 48)) (10 * 0 + ((c : Int) - 48)) ≤ 1000000000000 := hm
        rw [show 10 * 0 + ((c : Int) - 48) = ((c - 48 : Nat) : Int) by omega] at hm
        obtain ⟨u, hu⟩ := lint_fig r (c - 48) (fun d hd => hs d (List.mem_cons_of_mem _ hd)) hm
        exact ⟨_, hu, trivial⟩
  | turned h ih => exact ih.turned
  | held h ih => exact ih.held
  | one h ih => exact ih
  | sum h ih => exact ih
  | times h k ih ik => exact ih.two ik (.inl rfl)
  | plus h k ih ik => exact ih.two ik (.inr (.inl rfl))
  | less h k ih ik => exact ih.two ik (.inr (.inr rfl))
/-- a spoilt part: it stays spoilt in any whole -/
def Bad (cs : List Nat) : Prop := lint .R cs = none ∨ bal cs ≠ 0
theorem Bad.not {cs : List Nat} (h : Bad cs) : ∀ f, ¬ Wr 0 f cs := fun f w => by
  obtain ⟨⟨s, e, _⟩, b⟩ := w.clean
  rcases h with h | h
  · rw [h] at e; cases e
  · exact h b
theorem Bad.left {cs ds : List Nat} {c : Nat} (h : Bad cs) (k : Clean ds) (hc : c = 42 ∨ c = 43 ∨ c = 45) : Bad (cs ++ c :: ds) := by
  rcases h with h | h
  · exact .inl (lint_none h)
  · exact .inr (by rw [bal_app, bal_cons (by omega), k.2]; omega)
theorem Bad.right {cs ds : List Nat} {c : Nat} (h : Clean cs) (k : Bad ds) (hc : c = 42 ∨ c = 43 ∨ c = 45) : Bad (cs ++ c :: ds) := by
  obtain ⟨⟨s, e, d⟩, b⟩ := h
  rcases k with h | h
  · exact .inl (by rw [lint_some e, lint_cons (done_op d hc), h])
  · exact .inr (by rw [bal_app, bal_cons (by omega), b]; omega)
theorem Bad.held {cs : List Nat} (h : Bad cs) : Bad (40 :: (cs ++ [41])) := by
  rcases h with h | h
  · exact .inl (by rw [lint_cons (show lintS .R 40 = some .R from rfl)]; exact lint_none h)
  · exact .inr (by rw [bal_held]; exact h)
theorem Bad.turned {cs : List Nat} (h : Bad cs) : Bad (45 :: cs) := by
  rcases h with h | h
  · exact .inl (by rw [lint_cons (show lintS .R 45 = some .R from rfl)]; exact h)
  · exact .inr (by rw [bal_cons (by decide)]; exact h)
end Dpr

namespace Dpr
open PySem PySem.Spec PyProof.Rows L2
/-! texts drawn with their formulas: text, formula, rank; spoilt or not; a bound -/
structure Pt where
  z : Str
  f : Fm
  r : Nat
  b : Bool
  c : Nat
def PtAt (H : Hp) (p : Addr) (t : Pt) : Prop := ∃ q, H p = some (.tup [.str t.z, .ref q, .int (t.r : Int)]) ∧ FmAt H q t.f
theorem PtAt.keep {H H' : Hp} {p : Addr} {t : Pt} (h : PtAt H p t) (s : ∀ p xs, H p = some (.tup xs) → H' p = some (.tup xs)) : PtAt H' p t := by
  obtain ⟨q, h1, h2⟩ := h
  exact ⟨q, s _ _ h1, h2.keep s⟩
theorem PtAt.same {H H' : Hp} {p : Addr} {t : Pt} (h : PtAt H p t) (s : Same H H') : PtAt H' p t := h.keep fun _ _ e => s _ _ e
theorem pt_upd {H : Hp} {o p : Addr} {xs ys : List V} {t : Pt} (e : H o = some (.lst xs)) (h : PtAt H p t) : PtAt (upd H o (.lst ys)) p t := h.keep fun q zs hq => hp_upd (ne_of hq e (by intro z; cases z)) hq
def inPt (k : Int) (t : Pt) : Pt := if (t.r : Int) < k then { t with z := ("(" : Str) ++ t.z ++ (")" : Str), r := 2 } else t
def turnPt (t : Pt) : Pt := ⟨("-" : Str) ++ (inPt 2 t).z, .turned t.f, 2, t.b, t.c + 1⟩
def heldPt (t : Pt) : Pt := { inPt 3 t with c := t.c + 1 }
def joinPt (w : Int) (t u : Pt) : Pt :=
  if w % 3 = 2 then ⟨(inPt 1 t).z ++ ("*" : Str) ++ (inPt 2 u).z, .times t.f u.f, 1, t.b || u.b, t.c + u.c + 1⟩
  else if w % 3 = 0 then ⟨t.z ++ ("+" : Str) ++ (inPt 1 u).z, .plus t.f u.f, 0, t.b || u.b, t.c + u.c + 1⟩
  else ⟨t.z ++ ("-" : Str) ++ (inPt 1 u).z, .less t.f u.f, 0, t.b || u.b, t.c + u.c + 1⟩
structure PtOk (t : Pt) : Prop where
  r2 : t.r ≤ 2
  len : t.z.length ≤ 20 * t.c
  wg : wgt t.z.cps.toList ≤ 2 * t.c
  c1 : 1 ≤ t.c
  sz : t.f.size ≤ t.c
  good : t.b = false → Wr t.r t.f t.z.cps.toList
  bad : t.b = true → Bad t.z.cps.toList
theorem one_cps : (Str.ofString "(").cps.toList = [40] ∧ (Str.ofString ")").cps.toList = [41] ∧ (Str.ofString "*").cps.toList = [42] ∧ (Str.ofString "+").cps.toList = [43] ∧ (Str.ofString "-").cps.toList = [45] := by decide +kernel
theorem wr_to0 {r : Nat} {f : Fm} {cs : List Nat} (h : Wr r f cs) : Wr 0 f cs := by
  cases h with
  | name h0 h7 hs => exact (Wr.name h0 h7 hs).one.sum
  | num h0 h14 hs hz hm => exact (Wr.num h0 h14 hs hz hm).one.sum
  | turned h => exact h.turned.one.sum
  | held h => exact h.held.one.sum
  | one h => exact h.one.sum
  | sum h => exact h.sum
  | times h k => exact (h.times k).sum
  | plus h k => exact h.plus k
  | less h k => exact h.less k
theorem wr_to1 {r : Nat} {f : Fm} {cs : List Nat} (h : Wr r f cs) (hr : 1 ≤ r) : Wr 1 f cs := by
  cases h with
  | name h0 h7 hs => exact (Wr.name h0 h7 hs).one
  | num h0 h14 hs hz hm => exact (Wr.num h0 h14 hs hz hm).one
  | turned h => exact h.turned.one
  | held h => exact h.held.one
  | one h => exact h.one
  | sum h => omega
  | times h k => exact h.times k
  | plus h k => omega
  | less h k => omega
theorem wr_le {r : Nat} {f : Fm} {cs : List Nat} (h : Wr r f cs) : r ≤ 2 := by
  cases h <;> omega
/-- a part that is put in brackets where its rank is too low -/
structure PtIn (k : Nat) (t u : Pt) : Prop where
  f : u.f = t.f
  b : u.b = t.b
  c : u.c = t.c
  r2 : u.r ≤ 2
  rk : min k 2 ≤ u.r
  len : u.z.length ≤ t.z.length + 2
  wg : wgt u.z.cps.toList ≤ wgt t.z.cps.toList + 1
  good : t.b = false → Wr u.r u.f u.z.cps.toList
  bad : t.b = true → Bad u.z.cps.toList
theorem in_ok {t : Pt} (h : PtOk t) (k : Nat) : PtIn k t (inPt (k : Int) t) := by
  unfold inPt
  split
  · rename_i hk
    have e : ((("(" : Str) ++ t.z ++ (")" : Str))).cps.toList = 40 :: (t.z.cps.toList ++ [41]) := by
      rw [app_cps, app_cps, one_cps.1, one_cps.2.1, List.append_assoc]
      rfl
    refine ⟨rfl, rfl, rfl, Nat.le_refl _, ?_, ?_, ?_, fun hb => ?_, fun hb => ?_⟩
    · show min k 2 ≤ 2
      omega
    · show (((("(" : Str) ++ t.z ++ (")" : Str)))).length ≤ _
      rw [app_len, app_len]
      show 1 + _ + 1 ≤ _
      omega
    · show wgt ((("(" : Str) ++ t.z ++ (")" : Str))).cps.toList ≤ _
      rw [e, wgt_40, wgt_app]
      show _ + 0 + 1 ≤ _
      omega
    · show Wr 2 t.f ((("(" : Str) ++ t.z ++ (")" : Str))).cps.toList
      rw [e]
      exact (wr_to0 (h.good hb)).held
    · show Bad ((("(" : Str) ++ t.z ++ (")" : Str))).cps.toList
      rw [e]
      exact (h.bad hb).held
  · rename_i hk
    have := h.r2
    exact ⟨rfl, rfl, rfl, h.r2, by omega, by omega, by omega, h.good, h.bad⟩
theorem wr_2 {r : Nat} {f : Fm} {cs : List Nat} (h : Wr r f cs) (hr : 2 ≤ r) : Wr 2 f cs := by
  have := wr_le h
  obtain rfl : r = 2 := by omega
  exact h
theorem turn_ok {t : Pt} (h : PtOk t) : PtOk (turnPt t) := by
  have k := in_ok h 2
  have e : ((("-" : Str) ++ (inPt (2 : Nat) t).z)).cps.toList = 45 :: (inPt (2 : Nat) t).z.cps.toList := by
    rw [app_cps, one_cps.2.2.2.2]
    rfl
  have k1 := k.len
  have k2 := k.wg
  have h1 := h.len
  have h2 := h.wg
  refine ⟨Nat.le_refl _, ?_, ?_, ?_, ?_, fun hb => ?_, fun hb => ?_⟩
  · show (("-" : Str) ++ (inPt (2 : Nat) t).z).length ≤ 20 * (t.c + 1)
    rw [app_len]
    show 1 + _ ≤ _
    omega
  · show wgt (("-" : Str) ++ (inPt (2 : Nat) t).z).cps.toList ≤ 2 * (t.c + 1)
    rw [e, wgt_45]
    omega
  · show 1 ≤ t.c + 1
    omega
  · have := h.sz
    show t.f.size + 1 ≤ t.c + 1
    omega
  · show Wr 2 (.turned t.f) (("-" : Str) ++ (inPt (2 : Nat) t).z).cps.toList
    rw [e]
    have w := k.good hb
    rw [k.f] at w
    exact (wr_2 w (by have := k.rk; omega)).turned
  · show Bad (("-" : Str) ++ (inPt (2 : Nat) t).z).cps.toList
    rw [e]
    exact (k.bad hb).turned
theorem held_ok {t : Pt} (h : PtOk t) : PtOk (heldPt t) := by
  have k := in_ok h 3
  have k1 := k.len
  have k2 := k.wg
  have h1 := h.len
  have h2 := h.wg
  have h3 := h.sz
  refine ⟨k.r2, ?_, ?_, ?_, ?_, fun hb => k.good (k.b ▸ hb), fun hb => k.bad (k.b ▸ hb)⟩
  · show (inPt (3 : Nat) t).z.length ≤ 20 * (t.c + 1)
    omega
  · show wgt (inPt (3 : Nat) t).z.cps.toList ≤ 2 * (t.c + 1)
    omega
  · show 1 ≤ t.c + 1
    omega
  · show (inPt (3 : Nat) t).f.size ≤ t.c + 1
    rw [k.f]
    omega
theorem two_ok {t u t' u' : Pt} {z op : Str} {f : Fm} {r o : Nat} (h : PtOk t) (k : PtOk u) (nb : ¬ (t.b = true ∧ u.b = true)) (ho : op.cps.toList = [o]) (hw : wgt [o] ≤ 1) (ho3 : o = 42 ∨ o = 43 ∨ o = 45)
    (tl : t'.z.length ≤ t.z.length + 2) (ul : u'.z.length ≤ u.z.length + 2) (tw : wgt t'.z.cps.toList + wgt u'.z.cps.toList + wgt [o] ≤ wgt t.z.cps.toList + wgt u.z.cps.toList + 2)
    (tb : t.b = true → Bad t'.z.cps.toList) (ub : u.b = true → Bad u'.z.cps.toList) (tg : t.b = false → Clean t'.z.cps.toList) (ug : u.b = false → Clean u'.z.cps.toList)
    (hz : z = t'.z ++ op ++ u'.z) (hf : f.size = t.f.size + u.f.size + 1) (hr : r ≤ 2) (good : t.b = false → u.b = false → Wr r f (t'.z.cps.toList ++ o :: u'.z.cps.toList)) : PtOk ⟨z, f, r, t.b || u.b, t.c + u.c + 1⟩ := by
  have e : z.cps.toList = t'.z.cps.toList ++ o :: u'.z.cps.toList := by
    rw [hz, app_cps, app_cps, ho, List.append_assoc]
    rfl
  have h1 := h.len
  have h2 := h.wg
  have h3 := h.sz
  have k1 := k.len
  have k2 := k.wg
  have k3 := k.sz
  have ol : op.length = 1 := by rw [len_cps, ho]; rfl
  refine ⟨hr, ?_, ?_, ?_, ?_, fun hb => ?_, fun hb => ?_⟩
  · show z.length ≤ 20 * (t.c + u.c + 1)
    rw [hz, app_len, app_len, ol]
    omega
  · show wgt z.cps.toList ≤ 2 * (t.c + u.c + 1)
    rw [e, wgt_app, ← List.singleton_append, wgt_app]
    omega
  · show 1 ≤ t.c + u.c + 1
    omega
  · show f.size ≤ t.c + u.c + 1
    omega
  · show Wr r f z.cps.toList
    rw [e]
    have hb : (t.b || u.b) = false := hb
    rw [Bool.or_eq_false_iff] at hb
    exact good hb.1 hb.2
  · show Bad z.cps.toList
    rw [e]
    have hb : (t.b || u.b) = true := hb
    cases hT : t.b with
    | true =>
      have hU : u.b = false := by
        cases hU : u.b with
        | true => exact absurd ⟨hT, hU⟩ nb
        | false => rfl
      exact (tb hT).left (ug hU) ho3
    | false =>
      rw [hT, Bool.false_or] at hb
      exact Bad.right (tg hT) (ub hb) ho3
theorem join_ok {t u : Pt} (w : Int) (h : PtOk t) (k : PtOk u) (nb : ¬ (t.b = true ∧ u.b = true)) : PtOk (joinPt w t u) := by
  have t1 := in_ok h 1
  have u1 := in_ok k 1
  have u2 := in_ok k 2
  have c : ∀ {a : Pt} {j : Nat}, PtOk a → a.b = false → Clean (inPt (j : Int) a).z.cps.toList := fun ha hb => ((in_ok ha _).good hb).clean
  have t1l := t1.len
  have t1w := t1.wg
  have u1l := u1.len
  have u1w := u1.wg
  have u2l := u2.len
  have u2w := u2.wg
  unfold joinPt
  split
  · exact two_ok (t' := inPt (1 : Nat) t) (u' := inPt (2 : Nat) u) (op := "*") (o := 42) h k nb one_cps.2.2.1 (by decide) (.inl rfl) t1l u2l (by rw [show wgt [42] = 0 from rfl]; omega) t1.bad u2.bad (c h) (c k) rfl rfl (by decide) fun hb kb => by
      have a := t1.good hb
      have b := u2.good kb
      rw [t1.f] at a
      rw [u2.f] at b
      exact (wr_to1 a (by have := t1.rk; omega)).times (wr_2 b (by have := u2.rk; omega))
  · split
    · exact two_ok (t' := t) (u' := inPt (1 : Nat) u) (op := "+") (o := 43) h k nb one_cps.2.2.2.1 (by decide) (.inr (.inl rfl)) (by omega) u1l (by rw [show wgt [43] = 0 from rfl]; omega) h.bad u1.bad (fun hb => (h.good hb).clean) (c k) rfl rfl (by decide) fun hb kb => by
        have b := u1.good kb
        rw [u1.f] at b
        exact (wr_to0 (h.good hb)).plus (wr_to1 b (by have := u1.rk; omega))
    · exact two_ok (t' := t) (u' := inPt (1 : Nat) u) (op := "-") (o := 45) h k nb one_cps.2.2.2.2 (by decide) (.inr (.inr rfl)) (by omega) u1l (by rw [show wgt [45] = 1 from rfl]; omega) h.bad u1.bad (fun hb => (h.good hb).clean) (c k) rfl rfl (by decide) fun hb kb => by
        have b := u1.good kb
        rw [u1.f] at b
        exact (wr_to0 (h.good hb)).less (wr_to1 b (by have := u1.rk; omega))
theorem join_b (w : Int) (t u : Pt) : (joinPt w t u).b = (t.b || u.b) ∧ (joinPt w t u).c = t.c + u.c + 1 := by
  unfold joinPt
  split
  · exact ⟨rfl, rfl⟩
  · split <;> exact ⟨rfl, rfl⟩
theorem held_b (t : Pt) : (heldPt t).b = t.b ∧ (heldPt t).c = t.c + 1 := by
  refine ⟨?_, rfl⟩
  show (inPt 3 t).b = t.b
  unfold inPt
  split <;> rfl
/-! a stack of parts -/
def StackPt (H : Hp) (o : Addr) (ts : List Pt) : Prop := ∃ ps : List Addr, H o = some (.lst (ps.map V.ref)) ∧ A2 (PtAt H) ps ts
def totalP (ts : List Pt) : Nat := (ts.map Pt.c).sum + ts.length
theorem totalP_snoc (ts : List Pt) (t : Pt) : totalP (ts ++ [t]) = totalP ts + t.c + 1 := by
  unfold totalP
  rw [List.map_append, List.sum_append, List.length_append]
  simp only [List.map_cons, List.map_nil, List.sum_cons, List.sum_nil, List.length_cons, List.length_nil]
  omega
end Dpr

namespace Dpr
open PySem PySem.Spec PyProof.Rows L2
/-! texts: rules by names of their own -/
def rLenS : List V → Hp → VK → Prop := fun xs H Q => ∃ z : Str, xs = [.str z] ∧ z.length ≤ sizeLine ∧ Q (.int z.length) H
theorem c_lenS {X : Cx} : CallR X (.builtin "len") rLenS := call_len_str
theorem w_lenS {z : Str} {H : Hp} {Q : VK} (hz : z.length ≤ 1000000) (q : Q (.int (z.length : Int)) H) : rLenS [V.str z] H Q := ⟨z, rfl, Nat.le_trans hz (by rw [sizeLine_eq]; decide), q⟩
def rStrI : List V → Hp → VK → Prop := fun xs H Q => ∃ i : Int, xs = [.int i] ∧ i.natAbs.log2 < 1920 ∧ Q (.str (Str.ofString (toString i))) H
theorem c_strI {X : Cx} : CallR X (.type "str") rStrI := call_str_int
theorem w_strI {i : Int} {H : Hp} {Q : VK} (h : i.natAbs < 2 ^ 1900) (q : Q (.str (Str.ofString (toString i))) H) : rStrI [V.int i] H Q :=
  ⟨i, rfl, Nat.lt_of_lt_of_le (PySem.Flt.log2_lt_of (by decide) h) (by decide), q⟩
theorem small_abs {i : Int} (h : -1000000000000000000 ≤ i ∧ i ≤ 1000000000000000000) : i.natAbs < 2 ^ 1900 :=
  Nat.lt_of_lt_of_le (show i.natAbs < 2 ^ 60 by have : (2 : Nat) ^ 60 = 1152921504606846976 := (by decide); omega) (Nat.pow_le_pow_right (by decide) (by decide))
def rIntS : List V → Hp → VK → Prop := fun xs H Q => ∃ (a : Str) (n : Int), xs = [.str a] ∧ PySem.intText? a = some n ∧ a.length ≤ 640 ∧ Q (.int n) H
theorem c_intS {X : Cx} : CallR X (.type "int") rIntS := call_int_str
theorem w_intS {a : Str} {n : Int} {H : Hp} {Q : VK} (h : PySem.intText? a = some n) (hl : a.length ≤ 640) (q : Q (.int n) H) : rIntS [V.str a] H Q := ⟨a, n, rfl, h, hl, q⟩
/-- str of a text, or of a number -/
def rStrA : List V → Hp → VK → Prop := fun xs H Q => (∃ a : Str, xs = [.str a] ∧ Q (.str a) H) ∨ rStrI xs H Q
theorem c_strA {X : Cx} : CallR X (.type "str") rStrA := by
  intro pins s σ H xs us Q I r h
  rcases h with h | h
  · exact SkE.call_str_str pins s σ H xs us Q I r h
  · exact call_str_int pins s σ H xs us Q I r h
theorem w_strAS {a : Str} {H : Hp} {Q : VK} (q : Q (.str a) H) : rStrA [V.str a] H Q := .inl ⟨a, rfl, q⟩
theorem w_strAI {i : Int} {H : Hp} {Q : VK} (h : i.natAbs < 2 ^ 1900) (q : Q (.str (Str.ofString (toString i))) H) : rStrA [V.int i] H Q := .inr (w_strI h q)
end Dpr

namespace Dpr
open PySem PySem.Spec PyProof.Rows L2
/-! a caught error that is kept behind its suite -/
def Exh (cls : Value) (d : Option Addr) (a : Addr) : HO := .ext fun h => ∃ (o : Obj) (fs : Array Value), h.get? a = some o ∧ Zc cls d o ∧ o.data = .fields fs
theorem exh_ok {P : Program} {w : World} {H : Hp} {h : Heap} {a : Addr} {cls : Value} {d : Option Addr} {o : Obj} {fs : Array Value} (g : h.get? a = some o) (z : Zc cls d o) (f : o.data = .fields fs) : ObjOk P w H h a (Exh cls d a) :=
  ⟨⟨o, fs, g, z, f⟩, ⟨o, g⟩, fun _ _ ⟨o', f', g', z'⟩ k => ⟨o', f', k o' g', z'⟩⟩
section
variable {X : Cx} {pins : List (Addr × Obj)} {σ : L2.St} {H : Hp} {s : Shared}
/-- an object that stands, new since the def's begin, is tracked -/
theorem inv_track {a : Addr} {φ : Heap → Prop} (I : Inv X pins σ H s) (n0 : X.s_0.heap.get? a = none) (na : H a = none) (nl : a ≠ X.env.locals) (nc : ∀ x c, X.env.cells.lookup x = some c → c ≠ a) (np : ∀ p ∈ X.pn ++ pins, p.1 ≠ a)
    (ob : ObjOk X.prog X.w (upd H a (.ext φ)) s.heap a (.ext φ)) : Inv X pins σ (upd H a (.ext φ)) s := by
  have old : ∀ {b : Addr} {u : HO}, H b = some u → upd H a (.ext φ) b = some u := fun {b u} e => by rw [upd_ne (ne_of_none e na)]; exact e
  have new0 : ∀ {b : Addr} {u : Obj}, X.s_0.heap.get? b = some u → b ≠ a := fun {b u} e z => by rw [z, n0] at e; cases e
  have gone : ∀ {b : Addr}, b ≠ a → H b = none → upd H a (.ext φ) b = none := fun {b} ne e => by rw [upd_ne ne]; exact e
  refine ⟨I.ok, I.os, I.bare, ⟨I.base.keep, I.base.slot, fun b u e n hx => gone (new0 e) (I.base.free b u e n hx), I.base.there, fun b xs e => old (I.base.tups b xs e), fun b u v e => old (I.base.frzs b u v e), fun b ps e => ?_⟩, I.loc, I.cell, gone nl.symm I.free, fun x c e => gone (nc x c e) (I.freeC x c e), fun p hp => ?_, fun b u e => ?_, I.len⟩
  · obtain ⟨m, q⟩ := I.base.tbls b ps e
    exact ⟨m, old q⟩
  · have q := I.pin p hp
    exact ⟨q.1, gone (np p hp) q.2.1, q.2.2⟩
  · by_cases c : b = a
    · subst c
      rw [upd_same] at e
      cases e
      exact ob
    · rw [upd_ne c] at e
      exact (I.hok b u e).stay (fun _ _ _ q => q) (fun _ q => old q) fun _ _ q => old q
end
/-- the clauses: the class asked, the suite's reading -/
abbrev Clss := List (Value × (Addr → Value → Option Addr → TS))
def keepE (D : Ends) (i : Nat) (a : Addr) (cls : Value) (d : Option Addr) : Ends where
  nx := fun σ H => H a = none → D.nx (σ.set i none) (upd H a (Exh cls d a))
  rt := D.rt
  bk := fun σ H => D.bk (σ.set i none) H
  ct := fun σ H => D.ct (σ.set i none) H
def wNamed (K : PySem.W.Frag) (Wout : WX) (D : Ends) (i : Nat) : Clss → WX
  | [] => Wout
  | q :: r => fun cls d σ H => ∃ b : Bool, PySem.W.exmOne K cls q.1 = some b ∧ (b = true → ∀ a : Addr, H a = none → q.2 a cls d (keepE D i a cls d) (σ.set i (some (.ref a))) H) ∧ (b = false → wNamed K Wout D i r cls d σ H)
inductive Clauses (X : Cx) (n : Str) : List ExceptHandler → Clss → Prop
  | nil : Clauses X n [] []
  | cons {x : Str} {c : Value} {ts : Addr → Value → Option Addr → TS} {b₀ : Stmt} {rest : List Stmt} {p1 p2 : Pos} {more : List ExceptHandler} {l : Clss} (hx : Names X x c)
      (run : ∀ (a : Addr) (o : Obj) (cls : Value) (d : Option Addr) (pn : List (Addr × Obj)), Zc cls d o → (∃ fs, o.data = .fields fs) → PSs (X.suite a ((a, o) :: pn)) (b₀ :: rest) (ts a cls d)) (tl : Clauses X n more l) :
      Clauses X n (.ExceptHandler (some (.Name x p1)) (some n) (b₀ :: rest) p2 :: more) ((c, ts) :: l)
section
variable {X : Cx} {n : Str} {i : Nat} {body : List Stmt} {h0 : ExceptHandler} {more : List ExceptHandler} {l : Clss} {pos : Pos} {tb : WX → TS} {Wout : WX}
theorem ps_try_named (st : X.stack = X.env :: X.outer) (fr : X.env.frame = some X.env.locals) (noex : X.ex = []) (nodup : X.N.Nodup) (at_i : X.N[i]? = some n) (loc : X.env.kindOf n = some .local) (tk : Takes X Wout)
    (run : ∀ (W : WX) (pn : List (Addr × Obj)) (xe : Value → Shared → Prop), Takes (X.tr pn xe) W → PassesOwn (model X.prog X.w) X.A X.env xe → PSs (X.tr pn xe) body (tb W))
    (hh : Clauses X n (h0 :: more) l) : PS X (.Try body (h0 :: more) [] [] pos) (fun D σ H => tb (wNamed X.K Wout D i l) D σ H) := by
  refine ⟨fun pins s σ H D I0 read => ?_⟩
  have okX := I0.ok
  have frs2 : X.A.frames = some (X.env :: X.outer) := okX.frames.trans (by rw [st])
  apply wpAny_Try_except
  refine wpAny_mono ((run (wNamed X.K Wout D i l) (X.pn ++ pins) (fun e t1 => wpAny (model X.prog X.w) X.A (noteFrame e X.env)
      (fun _ t2 => wpAny (model X.prog X.w) X.A (setFlight e none)
        (fun _ t3 => wpAny (model X.prog X.w) X.A (handleBy e X.env (h0 :: more)) (SP X pins D) X.xe t3) X.xe t2) X.xe t1)
      (fun u t caught => ?caught) PassesOwn.looking).run [] s σ H D (I0.toTry _) read) (fun f t through => ?through) (fun _ _ q => q)
  case through =>
    cases f <;> first
      | (obtain ⟨σ1, H1, I1, q1⟩ := through; exact wpAny_execs_nil ⟨σ1, H1, I1.ofTry okX, q1⟩)
      | (obtain ⟨σ1, H1, I1, q1⟩ := through; exact ⟨σ1, H1, I1.ofTry okX, q1⟩)
      | (obtain ⟨v1, σ1, H1, I1, r1, q1⟩ := through; exact ⟨v1, σ1, H1, I1.ofTry okX, r1, q1⟩)
  case caught =>
    obtain ⟨a, B, t0, pins1, σ1, H1, cls, d, rfl, I1', ground, up1, sky1, na, os1, bare1, wish⟩ := caught
    have I1 : Inv X pins σ1 H1 t0 := I1'.ofTry okX
    have sky2 : Sky B (X.env :: X.outer) a (Zc cls d) X.env.locals t.heap := st ▸ sky1
    show wpAny (model X.prog X.w) X.A (noteFrame (.ref a) X.env) _ _ _
    refine Sky.land Zc.steady frs2 fr sky2 fun g3 fly3 up3 => ?_
    have I3 : Inv X pins σ1 H1 { t with heap := g3 } := I1.landed ground fly3.1 (up1.trans up3) os1 bare1
    obtain ⟨o3, fs3, get3, z3, dat3⟩ := fly3.there
    have noFrame : a ∉ frs (X.env :: X.outer) := fun m => by
      obtain ⟨_, o', g', nf⟩ := fly3.2.2.1.mem m
      cases get3.symm.trans g'
      exact nf _ dat3
    have nl : a ≠ X.env.locals := fun z => noFrame (List.mem_filterMap.mpr ⟨X.env, List.mem_cons_self, fr.trans (congrArg some z.symm)⟩)
    have nfs : a ∉ X.fs := fun m => by
      obtain ⟨e1, m1, q1⟩ := List.mem_filterMap.mp m
      exact noFrame (List.mem_filterMap.mpr ⟨e1, List.mem_cons_of_mem _ m1, q1⟩)
    have inGround : ∀ b o, t0.heap.get? b = some o → b ∉ frs (X.env :: X.outer) → b ≠ a := fun b o e nb z => by
      have := ground b o e (by rw [show (X.tr (X.pn ++ pins) _).stack = X.env :: X.outer from st]; exact nb)
      rw [z, fly3.2.1] at this
      cases this
    have begin0 : X.s_0.heap.get? a = none := by
      cases e : X.s_0.heap.get? a with
      | none => rfl
      | some o =>
        obtain ⟨o', e'⟩ := I1.base.there a o e (by rw [noex]; exact List.not_mem_nil)
        exact absurd rfl (inGround a o' e' noFrame)
    have apart : ∀ p ∈ X.pn ++ pins, p.1 ≠ a := fun p hp => by
      have q := I1.pin p hp
      refine inGround p.1 p.2 q.1 fun m => ?_
      obtain ⟨e1, m1, q1⟩ := List.mem_filterMap.mp m
      rcases List.mem_cons.mp m1 with z | z
      · rw [z, fr] at q1
        exact q.2.2.1 (Option.some.inj q1).symm
      · exact q.2.2.2.1 (List.mem_filterMap.mpr ⟨e1, z, q1⟩)
    have S3 := I3.suite get3 dat3 na nl nfs
    have turn : ∀ {hs' : List ExceptHandler} {l' : Clss}, Clauses X n hs' l' → wNamed X.K Wout D i l' cls d σ1 H1 → wpAny (model X.prog X.w) X.A (handleBy (.ref a) X.env hs') (SP X pins D) X.xe { t with heap := g3 } := by
      intro hs' l' hc
      induction hc with
      | nil =>
        intro w1
        apply wpAny_handleBy_nil
        obtain ⟨_, _, _, o1, fs1, T1, _, _, g1, z1, d1, f1, _⟩ := id fly3
        unfold PySem.passOn
        refine wpAny_bind (wpAny_field g1 d1 f1 ?_)
        rw [if_neg (show ¬ ((Value.ref T1 == Value.none) = true) by simp)]
        have on : wpAny (model X.prog X.w) X.A (setFlight (.ref a) X.env.frame) (fun _ t4 => wpAny (model X.prog X.w) X.A (throw (.ref a) : Sem Flow) (SP X pins D) X.xe t4) X.xe { t with heap := g3 } := by
          rw [fr]
          exact HandSPX.setFlight_upZ fly3 fun g4 held up4 => wpAny_throw (tk _ _ ⟨a, B, t0, pins, σ1, H1, cls, d, rfl, I1, ground, (up1.trans up3).trans up4, .inr (.inr (by rw [st]; exact held)), na, os1, bare1, w1⟩)
        first
          | exact wpAny_bind on
          | exact wpAny_bind (wpAny_pure (wpAny_bind on))
      | @cons x c ts b₀ rest p1 p2 more2 l2 hx runS tl ih =>
        intro w1
        obtain ⟨b, asked, yes, no⟩ := w1
        refine wpAny_handleBy_cons (codeAny_handlers_test ?_) (by intro z; cases z)
        have cl3 : PySem.W.Looks (model X.prog X.w) g3 (typeOf (.ref a)) cls := fun _ _ _ _ k q => wpAny_typeOf_ref (k _ _ get3) (by rw [z3.1]; exact q)
        have tells := PySem.W.exm_one (M := model X.prog X.w) I3.kIn cl3 asked
        have named : ∀ {R : Value → Shared → Prop} {E : Value → Shared → Prop}, R c { t with heap := g3 } → wpAny (model X.prog X.w) (X.A.mark (some (.ref a))) (eval (.Name x p1) X.env) R E { t with heap := g3 } := fun {R E} q => by
          obtain ⟨hg, hdb, known | ⟨hm, hv, hnn⟩⟩ := hx
          · exact ld_glob (X := X.suite a ((a, o3) :: (X.pn ++ pins))) S3 hg known q hdb
          · exact ld_blt (X := X.suite a ((a, o3) :: (X.pn ++ pins))) S3 hg hm hv q hnn hdb
        refine named (tells.here ?_)
        cases b with
        | false =>
          show wpAny _ X.A (handleBy (.ref a) X.env more2) _ _ _
          exact ih (no rfl)
        | true =>
          apply codeAny_handlers_suite_as
          refine HandSPX.lands_againZ fly3 fun g4 fly4 up4 => ?_
          have I4 : Inv X pins σ1 H1 { t with heap := g4 } := I1.landed ground fly4.1 ((up1.trans up3).trans up4) os1 bare1
          obtain ⟨o4, fs4, get4, z4, dat4⟩ := fly4.there
          refine store_ok (X := X.suite a ((a, o4) :: (X.pn ++ pins))) (v := .ref a) (I4.suite get4 dat4 na nl nfs) nodup at_i (.inl loc) rfl (fun t5 S5 => ?_) (.inr loc)
          refine wpAny_mono ((runS a o4 cls d (X.pn ++ pins) z4 ⟨_, dat4⟩).run [] t5 _ H1 _ S5 (yes rfl a na)) (fun f t6 done => ?_) (fun _ _ z => z.elim)
          have behind : ∀ {σ6 : L2.St} {H6 : Hp} {R : Shared → Prop}, Inv X pins σ6 H6 t6 → (∀ t7, Inv X pins (σ6.set i none) H6 t7 → R t7) → wpAny (model X.prog X.w) X.A (do bindName X.env n .none; unbindBehindTheSuite X.env n p2) (fun _ t7 => R t7) X.xe t6 := fun {σ6 H6 R} J6 k => gone_ok J6 nodup at_i loc k
          cases f with
          | next =>
            obtain ⟨σ6, H6, S6, q6⟩ := done
            have pin6 := S6.pin (a, o4) (List.mem_append_left _ List.mem_cons_self)
            have J6 := inv_track (S6.unsuite okX) begin0 pin6.2.1 nl (fun x c e z => by
              obtain ⟨v, o, ho, hd⟩ := S6.cell x c e
              rw [z, pin6.1] at ho
              cases ho
              exact pin6.2.2.2.2 _ hd) apart (exh_ok pin6.1 z4 dat4)
            exact behind J6 fun t7 J7 => ⟨_, _, J7, q6 pin6.2.1⟩
          | brk =>
            obtain ⟨σ6, H6, S6, q6⟩ := done
            exact behind (S6.unsuite okX) fun t7 J7 => ⟨_, _, J7, q6⟩
          | cont =>
            obtain ⟨σ6, H6, S6, q6⟩ := done
            exact behind (S6.unsuite okX) fun t7 J7 => ⟨_, _, J7, q6⟩
          | ret u =>
            obtain ⟨v6, σ6, H6, S6, r6, q6⟩ := done
            exact behind (S6.unsuite okX) fun t7 J7 => ⟨_, _, _, J7, r6, q6⟩
    exact turn hh wish
end
/-! isinstance of such a one -/
def rIsx (K : PySem.W.Frag) : List V → Hp → VK → Prop := fun xs H Q => ∃ (a D : Addr) (c : V) (u : Value) (b : Bool), xs = [.ref a, c] ∧ H a = some (Exh (.ref D) none a) ∧ ExcC K D ∧ ClsV c u ∧ PySem.W.kitOne K (.ref D) u = some b ∧ Q (.bl b) H
def rIsxT (K : PySem.W.Frag) : List V → Hp → VK → Prop := fun xs H Q => ∃ (a D tp : Addr) (cs : List V) (us : List Value) (b : Bool), xs = [.ref a, .ref tp] ∧ H a = some (Exh (.ref D) none a) ∧ ExcC K D ∧ H tp = some (.tup cs) ∧ Paired ClsV cs us ∧ PySem.W.kitAny K (.ref D) us = some b ∧ Q (.bl b) H
theorem exh_inst {X : Cx} {pins : List (Addr × Obj)} {σ : L2.St} {H : Hp} {s : Shared} {a D : Addr} (I : Inv X pins σ H s) (e : H a = some (Exh (.ref D) none a)) : ∃ o, PySem.W.InstAt s.heap a o D none := by
  obtain ⟨⟨o, fs, g, ⟨z1, z2⟩, f⟩, _⟩ := I.hok a _ e
  refine ⟨o, ?_⟩
  obtain ⟨oc, od, oda, osl⟩ := o
  dsimp only at z1 z2 f
  subst z1 z2 f
  exact ⟨g, rfl, rfl, trivial⟩
theorem c_isx {X : Cx} (K : PySem.W.Frag) (eK : X.K = K := by rfl) : CallR X (.builtin "isinstance") (rIsx K) := by
  subst eK
  intro pins s σ H xs us Q I r q
  obtain ⟨a, D, c, u, b, rfl, e, C, hc, k, q⟩ := q
  obtain ⟨u1, u2, rfl, r1, r2⟩ := vals2 r
  cases (show u1 = Value.ref a from r1)
  obtain rfl := hc.eq r2
  obtain ⟨o, J⟩ := exh_inst I e
  exact PySem.W.kia_one (PySem.W.handS_kitx_exc C.hg C.hk C.hs C.hd C.ha C.hn C.ht C.hm) I.kIn J k (fun z => nomatch z) fun tk => ⟨.bl b, H, I.tok tk, rfl, q⟩
theorem c_isxT {X : Cx} (K : PySem.W.Frag) (eK : X.K = K := by rfl) : CallR X (.builtin "isinstance") (rIsxT K) := by
  subst eK
  intro pins s σ H xs us Q I r q
  obtain ⟨a, D, tp, cs, ws, b, rfl, e, C, hT, hc, k, q⟩ := q
  obtain ⟨u1, u2, rfl, r1, r2⟩ := vals2 r
  cases (show u1 = Value.ref a from r1)
  cases (show u2 = Value.ref tp from r2)
  obtain ⟨o, J⟩ := exh_inst I e
  obtain ⟨_, its, rv, oT, g1, g2, m, g3⟩ := (show ObjOk X.prog X.w H s.heap tp (.tup cs) from I.hok tp _ hT)
  obtain rfl := ClsV.all hc rv
  obtain ⟨oc, od, dt, sl⟩ := oT
  dsimp only at g2 g3
  subst g2 g3
  exact PySem.W.kia_tup (PySem.W.handS_kitx_exc C.hg C.hk C.hs C.hd C.ha C.hn C.ht C.hm) I.kIn J g1 k (fun z => nomatch z) fun tk => ⟨.bl b, H, I.tok tk, rfl, q⟩
/-! o.m(e, ..) within a try -/
def tMethS (C : Addr) (m : Str) (sp : Sp) (E : L2.St → XK) (ta : TE) (t : TA) : TE := fun σ H Q => ta σ H fun x H1 => ∃ (a dx : Addr) (fs : List (Str × V)), x = .ref a ∧ H1 a = some (.ins C dx fs) ∧ fs.lookup m = none ∧ t σ H1 fun vs H2 => sp (x :: vs) H2 Q (E σ)
section
variable {X : Cx} {CX : CXT} {k : Nat} {f C : Addr} {fd : FuncData} {ps : List Str} {sp : Sp} {E : L2.St → XK} {m : Str} {pos apos : Pos} {e o : Expr} {es : List Expr} {ta : TE} {t : TA}
theorem pe_methS {pl : Sem Bool} (he : PE X o ta) (c : Cls X.K C) (hm : Meth X.K C m f) (F : FnOk X.prog X.w X.K X.mg X.base CX k f fd ps sp) (hr : Room k X.A) (hb : Binds X.K fd ps []) (hx : ∀ σ, PassesAt CX X σ (E σ)) (ha : PA X (e :: es) t)
    (one : starEach (e :: es) X.env = (false, eval e X.env) :: starEach es X.env := by rfl) (more : (backTo pos (starEach es X.env)).any (·.1) = false := by rfl)
    (tree : eval (.Call (.Attribute o m apos) (e :: es) [] pos) X.env = (do
      let ov ← eval o X.env; standAt apos.atName; let (f, first) ← holding [ov] (getMethod ov m pl)
      callWith pos f first (backTo pos (starEach (e :: es) X.env)) (backToKw pos (keywordEach [] X.env))) := by rfl) : PE X (.Call (.Attribute o m apos) (e :: es) [] pos) (tMethS C m sp E ta t) := by
  refine ⟨fun pins s σ H Q I q0 => ?_⟩
  refine PySem.W.methodCall_KW (pl := pl) (thn (he.run pins s σ H _ I q0) fun u t1 hu => ?_) tree
  obtain ⟨x, H1, I1, rx, a, dx, fs, rfl, ea, nl, q1⟩ := hu
  cases (show u = Value.ref a from rx)
  refine getmeth_ok I1 ea c hm nl (PySem.W.callWith_K (first := [.ref a]) (h₀ := X.base) I.ok.mod.kin hm.kp ?_ one more)
  refine thn (ha.run pos pins t1 σ H1 _ I1 q1) fun us t2 hus => ?_
  obtain ⟨vs, H2, I2, r2, q2⟩ := hus
  exact ⟨I2.kIn, run_fnS (us := .ref a :: us) (vs := .ref a :: vs) F hr hb (hx σ) I2 (.cons rfl r2) q2⟩
end
def MethSB (C : Addr) (m : Str) (sp : Sp) (E : L2.St → XK) (t : TA) (σ : L2.St) (Q : VK) (x : V) (H1 : Hp) : Prop := ∃ (a dx : Addr) (fs : List (Str × V)), x = .ref a ∧ H1 a = some (.ins C dx fs) ∧ fs.lookup m = none ∧ t σ H1 fun vs H2 => sp (x :: vs) H2 Q (E σ)
section
variable {K : PySem.W.Frag} {D : Ends} {σ : L2.St} {H : Hp} {Q : VK} {ta : TE} {t : TA} {C : Addr} {m : Str} {sp : Sp} {E : L2.St → XK} {cls c : Value} {d : Option Addr} {i : Nat} {Wout : WX}
theorem w_methS (h : ta σ H (MethSB C m sp E t σ Q)) : tMethS C m sp E ta t σ H Q := h
theorem w_MethSB {a dx : Addr} {fs : List (Str × V)} (h : H a = some (.ins C dx fs)) (e : fs.lookup m = none) (q : t σ H fun vs H2 => sp (.ref a :: vs) H2 Q (E σ)) : MethSB C m sp E t σ Q (.ref a) H := ⟨a, dx, fs, rfl, h, e, q⟩
theorem w_callS (h : t σ H fun vs H1 => sp vs H1 Q (E σ)) : tCallS sp E t σ H Q := h
theorem w_hit {ts : Addr → Value → Option Addr → TS} {r : Clss} (k : PySem.W.exmOne K cls c = some true) (h : ∀ a : Addr, H a = none → ts a cls d (keepE D i a cls d) (σ.set i (some (.ref a))) H) : wNamed K Wout D i ((c, ts) :: r) cls d σ H := ⟨true, k, (fun _ => h), (fun z => absurd z.symm Bool.false_ne_true)⟩
theorem w_miss {ts : Addr → Value → Option Addr → TS} {r : Clss} (k : PySem.W.exmOne K cls c = some false) (h : wNamed K Wout D i r cls d σ H) : wNamed K Wout D i ((c, ts) :: r) cls d σ H := ⟨false, k, (fun z => absurd z Bool.false_ne_true), fun _ => h⟩
theorem w_keep {a : Addr} (h : ∀ H', Same H H' → H' a = some (Exh cls d a) → D.nx (σ.set i none) H') : (keepE D i a cls d).nx σ H := fun na => h _ (same_upd na) upd_same
theorem w_isx {a A : Addr} {x : V} {u : Value} {b : Bool} (e : H a = some (Exh (.ref A) none a)) (C : ExcC K A) (hc : ClsV x u) (k : PySem.W.kitOne K (.ref A) u = some b) (q : Q (.bl b) H) : rIsx K [.ref a, x] H Q := ⟨a, A, x, u, b, rfl, e, C, hc, k, q⟩
theorem kit_none {A : Addr} : ∀ {cs : List Addr}, (∀ c ∈ cs, PySem.W.kitOne K (.ref A) (.ref c) = some false) → PySem.W.kitAny K (.ref A) (cs.map Value.ref) = some false
  | [], _ => rfl
  | c :: r, h => kitAny_cons (h c (List.mem_cons_self ..)) (fun _ => kit_none fun x m => h x (List.mem_cons_of_mem _ m)) fun z => by cases z
theorem cls_refs : ∀ cs : List Addr, Paired ClsV (cs.map V.ref) (cs.map Value.ref)
  | [] => .nil
  | c :: r => .cons (.own c) (cls_refs r)
theorem w_isxT0 {a A tp : Addr} {cs : List Addr} (e : H a = some (Exh (.ref A) none a)) (C : ExcC K A) (hT : H tp = some (.tup (cs.map V.ref))) (k : ∀ c ∈ cs, PySem.W.kitOne K (.ref A) (.ref c) = some false) (q : Q (.bl false) H) : rIsxT K [.ref a, .ref tp] H Q :=
  ⟨a, A, tp, _, _, false, rfl, e, C, hT, cls_refs cs, kit_none k, q⟩
end
theorem kit_sub {K : PySem.W.Frag} {A B : Addr} {b : Bool} (hd : PySem.W.hasDictIn K B = true) (ht : PySem.W.typeIn K (.ref B) = some (.type "type")) (self : PySem.W.subIn K (.ref A) (.ref A) = some true) (hs : PySem.W.subIn K (.ref A) (.ref B) = some b) : PySem.W.kitOne K (.ref A) (.ref B) = some b := by
  unfold PySem.W.kitOne
  by_cases e : A = B
  · subst e
    rw [if_pos (beq_self_eq_true _), ← self, hs]
  · have ne : ¬ (Value.ref A == Value.ref B) = true := fun z => e (Value.ref.inj (eq_of_beq z))
    rw [if_neg ne]
    obtain ⟨cd, hc, _⟩ := PySem.W.any_some hd
    have ok : ((PySem.W.clsIn K B).isSome && PySem.W.typeIn K (.ref B) == some (.type "type")) = true := by rw [hc, ht] <;> rfl
    unfold PySem.W.kitCls
    dsimp only
    rw [if_pos ok]
    exact hs
theorem kit_ve {K : PySem.W.Frag} {A : Addr} {b : Bool} (hs : PySem.W.subIn K (.ref A) (.type "ValueError") = some b) : PySem.W.kitOne K (.ref A) (.type "ValueError") = some b := by
  unfold PySem.W.kitOne
  rw [if_neg (by intro z; cases eq_of_beq z)]
  unfold PySem.W.kitCls
  dsimp only
  rw [if_pos (by decide +kernel)]
  exact hs
end Dpr

namespace Dpr
open PySem PySem.Spec PyProof.Rows L2
def topS (i : Nat) : Stmt := PySem.Challenge.pw_dotpress_k38_texts_that_write_none.main.body.getD i (.Pass ⟨0, 0, 0, 0⟩)
abbrev s_Reader__init : Stmt := inClass (topS 14) 0
theorem sc_Reader__init : FnScope ["self", "text"] ["self", "text"] (defScope s_Reader__init) := ⟨rfl, rfl, rfl, by decide +kernel, rfl, by decide +kernel, by decide +kernel⟩
abbrev s_Reader_here : Stmt := inClass (topS 14) 1
theorem sc_Reader_here : FnScope ["self"] ["self"] (defScope s_Reader_here) := ⟨rfl, rfl, rfl, by decide +kernel, rfl, by decide +kernel, by decide +kernel⟩
abbrev s_Reader_run_of : Stmt := inClass (topS 14) 2
theorem sc_Reader_run_of : FnScope ["self", "signs", "begin"] ["self", "signs"] (defScope s_Reader_run_of) := ⟨rfl, rfl, rfl, by decide +kernel, rfl, by decide +kernel, by decide +kernel⟩
abbrev s_Reader_total : Stmt := inClass (topS 14) 3
theorem sc_Reader_total : FnScope ["self", "formula", "word"] ["self"] (defScope s_Reader_total) := ⟨rfl, rfl, rfl, by decide +kernel, rfl, by decide +kernel, by decide +kernel⟩
abbrev s_Reader_product : Stmt := inClass (topS 14) 4
theorem sc_Reader_product : FnScope ["self", "formula"] ["self"] (defScope s_Reader_product) := ⟨rfl, rfl, rfl, by decide +kernel, rfl, by decide +kernel, by decide +kernel⟩
abbrev s_Reader_piece : Stmt := inClass (topS 14) 5
theorem sc_Reader_piece : FnScope ["self", "formula", "name", "figures"] ["self"] (defScope s_Reader_piece) := ⟨rfl, rfl, rfl, by decide +kernel, rfl, by decide +kernel, by decide +kernel⟩
abbrev s_read : Stmt := topS 15
theorem sc_read : FnScope ["text", "reader", "formula"] ["text"] (defScope s_read) := ⟨rfl, rfl, rfl, by decide +kernel, rfl, by decide +kernel, by decide +kernel⟩
abbrev s_law_mixed : Stmt := topS 17
theorem sc_law_mixed : FnScope ["_law_cell", "_law_k", "_law_number"] ["_law_cell", "_law_k"] (defScope s_law_mixed) := ⟨rfl, rfl, rfl, by decide +kernel, rfl, by decide +kernel, by decide +kernel⟩
abbrev s_law_names : Stmt := topS 18
theorem sc_law_names : FnScope ["_law_cell", "_law_letters", "_law_mixed_here", "_law_size", "_law_place", "_law_names_here", "_law_k", "_law_name", "_law_j", "_law_at"] ["_law_cell"] (defScope s_law_names) := ⟨rfl, rfl, rfl, by decide +kernel, rfl, by decide +kernel, by decide +kernel⟩
abbrev s_law_leaf : Stmt := topS 19
theorem sc_law_leaf : FnScope ["_law_mixed_here", "_law_names_here"] ["_law_mixed_here", "_law_names_here"] (defScope s_law_leaf) := ⟨rfl, rfl, rfl, by decide +kernel, rfl, by decide +kernel, by decide +kernel⟩
abbrev s_law_in : Stmt := topS 20
theorem sc_law_in : FnScope ["_law_part", "_law_rank"] ["_law_part", "_law_rank"] (defScope s_law_in) := ⟨rfl, rfl, rfl, by decide +kernel, rfl, by decide +kernel, by decide +kernel⟩
abbrev s_law_joined : Stmt := topS 21
theorem sc_law_joined : FnScope ["_law_way", "_law_one", "_law_other", "_law_word"] ["_law_way", "_law_one", "_law_other"] (defScope s_law_joined) := ⟨rfl, rfl, rfl, by decide +kernel, rfl, by decide +kernel, by decide +kernel⟩
abbrev s_law_written : Stmt := topS 22
theorem sc_law_written : FnScope ["_law_cells", "_law_names_here", "_law_spoilt", "_law_most", "_law_left", "_law_row", "_law_parts", "_law_k", "_law_cell", "_law_mixed_here", "_law_way", "_law_part", "_law_other", "_law_leaf_here", "_law_text"] ["_law_cells", "_law_names_here", "_law_spoilt", "_law_most"] (defScope s_law_written) := ⟨rfl, rfl, rfl, by decide +kernel, rfl, by decide +kernel, by decide +kernel⟩
abbrev s_law_bad : Stmt := topS 23
theorem sc_law_bad : FnScope ["_law_some"] [] (defScope s_law_bad) := ⟨rfl, rfl, rfl, by decide +kernel, rfl, by decide +kernel, by decide +kernel⟩
abbrev s_law_refused : Stmt := topS 24
theorem sc_law_refused : FnScope ["_law_text", "_law_fault", "e"] ["_law_text"] (defScope s_law_refused) := ⟨rfl, rfl, rfl, by decide +kernel, rfl, by decide +kernel, by decide +kernel⟩
abbrev s_law : Stmt := topS 25
theorem sc_law : FnScope ["_law_script", "_law_cells", "_law_first", "_law_bad_here", "_law_last", "_law_part", "_law_done", "_law_behind", "_law_ahead"] ["_law_script"] (defScope s_law) := ⟨rfl, rfl, rfl, by decide +kernel, rfl, by decide +kernel, by decide +kernel⟩

structure Top (K : PySem.W.Frag) (mg : Str → Option Value) where
  a_Reader__init : Addr
  d_Reader__init : FuncData
  f_Reader__init : Fun K "__init__" "Reader.__init__" s_Reader__init a_Reader__init d_Reader__init
  b_Reader__init : Binds K d_Reader__init ["self", "text"] []
  a_Reader_here : Addr
  d_Reader_here : FuncData
  f_Reader_here : Fun K "here" "Reader.here" s_Reader_here a_Reader_here d_Reader_here
  b_Reader_here : Binds K d_Reader_here ["self"] []
  a_Reader_run_of : Addr
  d_Reader_run_of : FuncData
  f_Reader_run_of : Fun K "run_of" "Reader.run_of" s_Reader_run_of a_Reader_run_of d_Reader_run_of
  b_Reader_run_of : Binds K d_Reader_run_of ["self", "signs"] []
  a_Reader_total : Addr
  d_Reader_total : FuncData
  f_Reader_total : Fun K "total" "Reader.total" s_Reader_total a_Reader_total d_Reader_total
  b_Reader_total : Binds K d_Reader_total ["self"] []
  a_Reader_product : Addr
  d_Reader_product : FuncData
  f_Reader_product : Fun K "product" "Reader.product" s_Reader_product a_Reader_product d_Reader_product
  b_Reader_product : Binds K d_Reader_product ["self"] []
  a_Reader_piece : Addr
  d_Reader_piece : FuncData
  f_Reader_piece : Fun K "piece" "Reader.piece" s_Reader_piece a_Reader_piece d_Reader_piece
  b_Reader_piece : Binds K d_Reader_piece ["self"] []
  a_read : Addr
  d_read : FuncData
  f_read : Fun K "read" "read" s_read a_read d_read
  b_read : Binds K d_read ["text"] []
  g_read : mg "read" = some (.ref a_read)
  a_law_mixed : Addr
  d_law_mixed : FuncData
  f_law_mixed : Fun K "_law_mixed" "_law_mixed" s_law_mixed a_law_mixed d_law_mixed
  b_law_mixed : Binds K d_law_mixed ["_law_cell", "_law_k"] []
  g_law_mixed : mg "_law_mixed" = some (.ref a_law_mixed)
  a_law_names : Addr
  d_law_names : FuncData
  f_law_names : Fun K "_law_names" "_law_names" s_law_names a_law_names d_law_names
  b_law_names : Binds K d_law_names ["_law_cell"] []
  g_law_names : mg "_law_names" = some (.ref a_law_names)
  a_law_leaf : Addr
  d_law_leaf : FuncData
  f_law_leaf : Fun K "_law_leaf" "_law_leaf" s_law_leaf a_law_leaf d_law_leaf
  b_law_leaf : Binds K d_law_leaf ["_law_mixed_here", "_law_names_here"] []
  g_law_leaf : mg "_law_leaf" = some (.ref a_law_leaf)
  a_law_in : Addr
  d_law_in : FuncData
  f_law_in : Fun K "_law_in" "_law_in" s_law_in a_law_in d_law_in
  b_law_in : Binds K d_law_in ["_law_part", "_law_rank"] []
  g_law_in : mg "_law_in" = some (.ref a_law_in)
  a_law_joined : Addr
  d_law_joined : FuncData
  f_law_joined : Fun K "_law_joined" "_law_joined" s_law_joined a_law_joined d_law_joined
  b_law_joined : Binds K d_law_joined ["_law_way", "_law_one", "_law_other"] []
  g_law_joined : mg "_law_joined" = some (.ref a_law_joined)
  a_law_written : Addr
  d_law_written : FuncData
  f_law_written : Fun K "_law_written" "_law_written" s_law_written a_law_written d_law_written
  b_law_written : Binds K d_law_written ["_law_cells", "_law_names_here", "_law_spoilt", "_law_most"] []
  g_law_written : mg "_law_written" = some (.ref a_law_written)
  a_law_bad : Addr
  d_law_bad : FuncData
  f_law_bad : Fun K "_law_bad" "_law_bad" s_law_bad a_law_bad d_law_bad
  b_law_bad : Binds K d_law_bad [] []
  g_law_bad : mg "_law_bad" = some (.ref a_law_bad)
  a_law_refused : Addr
  d_law_refused : FuncData
  f_law_refused : Fun K "_law_refused" "_law_refused" s_law_refused a_law_refused d_law_refused
  b_law_refused : Binds K d_law_refused ["_law_text"] []
  g_law_refused : mg "_law_refused" = some (.ref a_law_refused)
  a_law : Addr
  d_law : FuncData
  f_law : Fun K "law" "law" s_law a_law d_law
  b_law : Binds K d_law ["_law_script"] []
  g_law : mg "law" = some (.ref a_law)
  c_PressError : Addr
  gc_PressError : mg "PressError" = some (.ref c_PressError)
  nc_PressError : IsC K "PressError" c_PressError
  kc_PressError : PySem.W.keepIn K (.ref c_PressError) = true
  x_PressError : PySem.W.excIn K c_PressError [.type "ValueError", .type "Exception", .type "BaseException", .type "object"] "ValueError.__new__" = true
  xb_PressError : PySem.W.subIn K (.ref c_PressError) (.type "BaseException") = some true
  xt_PressError : PySem.W.typeIn K (.ref c_PressError) = some (.type "type")
  c_TooFew : Addr
  gc_TooFew : mg "TooFew" = some (.ref c_TooFew)
  nc_TooFew : IsC K "TooFew" c_TooFew
  kc_TooFew : PySem.W.keepIn K (.ref c_TooFew) = true
  x_TooFew : PySem.W.excIn K c_TooFew [.type "ValueError", .type "Exception", .type "BaseException", .type "object"] "ValueError.__new__" = true
  xb_TooFew : PySem.W.subIn K (.ref c_TooFew) (.type "BaseException") = some true
  xt_TooFew : PySem.W.typeIn K (.ref c_TooFew) = some (.type "type")
  c_TooMany : Addr
  gc_TooMany : mg "TooMany" = some (.ref c_TooMany)
  nc_TooMany : IsC K "TooMany" c_TooMany
  kc_TooMany : PySem.W.keepIn K (.ref c_TooMany) = true
  x_TooMany : PySem.W.excIn K c_TooMany [.type "ValueError", .type "Exception", .type "BaseException", .type "object"] "ValueError.__new__" = true
  xb_TooMany : PySem.W.subIn K (.ref c_TooMany) (.type "BaseException") = some true
  xt_TooMany : PySem.W.typeIn K (.ref c_TooMany) = some (.type "type")
  c_TooWide : Addr
  gc_TooWide : mg "TooWide" = some (.ref c_TooWide)
  nc_TooWide : IsC K "TooWide" c_TooWide
  kc_TooWide : PySem.W.keepIn K (.ref c_TooWide) = true
  x_TooWide : PySem.W.excIn K c_TooWide [.type "ValueError", .type "Exception", .type "BaseException", .type "object"] "ValueError.__new__" = true
  xb_TooWide : PySem.W.subIn K (.ref c_TooWide) (.type "BaseException") = some true
  xt_TooWide : PySem.W.typeIn K (.ref c_TooWide) = some (.type "type")
  c_NoFormula : Addr
  gc_NoFormula : mg "NoFormula" = some (.ref c_NoFormula)
  nc_NoFormula : IsC K "NoFormula" c_NoFormula
  kc_NoFormula : PySem.W.keepIn K (.ref c_NoFormula) = true
  x_NoFormula : PySem.W.excIn K c_NoFormula [.type "ValueError", .type "Exception", .type "BaseException", .type "object"] "ValueError.__new__" = true
  xb_NoFormula : PySem.W.subIn K (.ref c_NoFormula) (.type "BaseException") = some true
  xt_NoFormula : PySem.W.typeIn K (.ref c_NoFormula) = some (.type "type")
  c_NoName : Addr
  gc_NoName : mg "NoName" = some (.ref c_NoName)
  nc_NoName : IsC K "NoName" c_NoName
  kc_NoName : PySem.W.keepIn K (.ref c_NoName) = true
  x_NoName : PySem.W.excIn K c_NoName [.type "ValueError", .type "Exception", .type "BaseException", .type "object"] "ValueError.__new__" = true
  xb_NoName : PySem.W.subIn K (.ref c_NoName) (.type "BaseException") = some true
  xt_NoName : PySem.W.typeIn K (.ref c_NoName) = some (.type "type")
  c_NoLine : Addr
  gc_NoLine : mg "NoLine" = some (.ref c_NoLine)
  nc_NoLine : IsC K "NoLine" c_NoLine
  kc_NoLine : PySem.W.keepIn K (.ref c_NoLine) = true
  x_NoLine : PySem.W.excIn K c_NoLine [.type "ValueError", .type "Exception", .type "BaseException", .type "object"] "ValueError.__new__" = true
  xb_NoLine : PySem.W.subIn K (.ref c_NoLine) (.type "BaseException") = some true
  xt_NoLine : PySem.W.typeIn K (.ref c_NoLine) = some (.type "type")
  c_NoCircuit : Addr
  gc_NoCircuit : mg "NoCircuit" = some (.ref c_NoCircuit)
  nc_NoCircuit : IsC K "NoCircuit" c_NoCircuit
  kc_NoCircuit : PySem.W.keepIn K (.ref c_NoCircuit) = true
  x_NoCircuit : PySem.W.excIn K c_NoCircuit [.type "ValueError", .type "Exception", .type "BaseException", .type "object"] "ValueError.__new__" = true
  xb_NoCircuit : PySem.W.subIn K (.ref c_NoCircuit) (.type "BaseException") = some true
  xt_NoCircuit : PySem.W.typeIn K (.ref c_NoCircuit) = some (.type "type")
  c_OutOfWidth : Addr
  gc_OutOfWidth : mg "OutOfWidth" = some (.ref c_OutOfWidth)
  nc_OutOfWidth : IsC K "OutOfWidth" c_OutOfWidth
  kc_OutOfWidth : PySem.W.keepIn K (.ref c_OutOfWidth) = true
  x_OutOfWidth : PySem.W.excIn K c_OutOfWidth [.type "ValueError", .type "Exception", .type "BaseException", .type "object"] "ValueError.__new__" = true
  xb_OutOfWidth : PySem.W.subIn K (.ref c_OutOfWidth) (.type "BaseException") = some true
  xt_OutOfWidth : PySem.W.typeIn K (.ref c_OutOfWidth) = some (.type "type")
  c_Reader : Addr
  gc_Reader : mg "Reader" = some (.ref c_Reader)
  nc_Reader : IsC K "Reader" c_Reader
  kc_Reader : PySem.W.keepIn K (.ref c_Reader) = true
  cl_Reader : Cls K c_Reader
  mk_Reader : Mk K c_Reader a_Reader__init
  m_Reader_here : Meth K c_Reader "here" a_Reader_here
  m_Reader_run_of : Meth K c_Reader "run_of" a_Reader_run_of
  m_Reader_total : Meth K c_Reader "total" a_Reader_total
  m_Reader_product : Meth K c_Reader "product" a_Reader_product
  m_Reader_piece : Meth K c_Reader "piece" a_Reader_piece
  n_Reader_text : NoAttr K c_Reader "text"
  n_Reader_at : NoAttr K c_Reader "at"
  ehd_PressError : PySem.W.hasDictIn K c_PressError = true
  ehd_TooFew : PySem.W.hasDictIn K c_TooFew = true
  ehd_TooMany : PySem.W.hasDictIn K c_TooMany = true
  ehd_TooWide : PySem.W.hasDictIn K c_TooWide = true
  ehd_NoFormula : PySem.W.hasDictIn K c_NoFormula = true
  ega_NoFormula : PySem.W.findIn K (.ref c_NoFormula) "__getattribute__" = some (some (.builtin "BaseException.__getattribute__"))
  egg_NoFormula : PySem.W.findIn K (.ref c_NoFormula) "__getattr__" = some none
  ecl_NoFormula : PySem.W.findIn K (.ref c_NoFormula) "__class__" = some (some (.builtin "object.__class__"))
  esp_NoFormula : PySem.W.specialIn K (.builtin "object.__class__") "__get__" = some (some (.builtin "getset_descriptor.__get__"))
  etk_NoFormula : PySem.W.takesIn K (.builtin "object.__class__") = some true
  emr_NoFormula : PySem.W.mroIn K c_NoFormula (.type "object") = some true
  sv_NoFormula : PySem.W.subIn K (.ref c_NoFormula) (.type "ValueError") = some true
  kv_NoFormula : PySem.W.kitOne K (.ref c_NoFormula) (.type "ValueError") = some true
  s_NoFormula_PressError : PySem.W.subIn K (.ref c_NoFormula) (.ref c_PressError) = some true
  k_NoFormula_PressError : PySem.W.kitOne K (.ref c_NoFormula) (.ref c_PressError) = some true
  s_NoFormula_TooFew : PySem.W.subIn K (.ref c_NoFormula) (.ref c_TooFew) = some false
  k_NoFormula_TooFew : PySem.W.kitOne K (.ref c_NoFormula) (.ref c_TooFew) = some false
  s_NoFormula_TooMany : PySem.W.subIn K (.ref c_NoFormula) (.ref c_TooMany) = some false
  k_NoFormula_TooMany : PySem.W.kitOne K (.ref c_NoFormula) (.ref c_TooMany) = some false
  s_NoFormula_TooWide : PySem.W.subIn K (.ref c_NoFormula) (.ref c_TooWide) = some false
  k_NoFormula_TooWide : PySem.W.kitOne K (.ref c_NoFormula) (.ref c_TooWide) = some false
  s_NoFormula_NoFormula : PySem.W.subIn K (.ref c_NoFormula) (.ref c_NoFormula) = some true
  k_NoFormula_NoFormula : PySem.W.kitOne K (.ref c_NoFormula) (.ref c_NoFormula) = some true
  m_NoFormula_NoFormula : PySem.W.exmOne K (.ref c_NoFormula) (.ref c_NoFormula) = some true
  s_NoFormula_NoName : PySem.W.subIn K (.ref c_NoFormula) (.ref c_NoName) = some false
  k_NoFormula_NoName : PySem.W.kitOne K (.ref c_NoFormula) (.ref c_NoName) = some false
  s_NoFormula_NoLine : PySem.W.subIn K (.ref c_NoFormula) (.ref c_NoLine) = some false
  k_NoFormula_NoLine : PySem.W.kitOne K (.ref c_NoFormula) (.ref c_NoLine) = some false
  s_NoFormula_NoCircuit : PySem.W.subIn K (.ref c_NoFormula) (.ref c_NoCircuit) = some false
  k_NoFormula_NoCircuit : PySem.W.kitOne K (.ref c_NoFormula) (.ref c_NoCircuit) = some false
  s_NoFormula_OutOfWidth : PySem.W.subIn K (.ref c_NoFormula) (.ref c_OutOfWidth) = some false
  k_NoFormula_OutOfWidth : PySem.W.kitOne K (.ref c_NoFormula) (.ref c_OutOfWidth) = some false
  ehd_NoName : PySem.W.hasDictIn K c_NoName = true
  ehd_NoLine : PySem.W.hasDictIn K c_NoLine = true
  ehd_NoCircuit : PySem.W.hasDictIn K c_NoCircuit = true
  ehd_OutOfWidth : PySem.W.hasDictIn K c_OutOfWidth = true
  z_ValueError : mg "ValueError" = none
  z_enumerate : mg "enumerate" = none
  z_int : mg "int" = none
  z_isinstance : mg "isinstance" = none
  z_len : mg "len" = none
  z_list : mg "list" = none
  z_range : mg "range" = none
  z_str : mg "str" = none
  k_FIGURES : Tok
  g_FIGURES : mg "FIGURES" = some (Value.str "0123456789" k_FIGURES)
  k_MOST : Tok
  g_MOST : mg "MOST" = some (Value.int 1000000000000 k_MOST)
  k_SMALL : Tok
  g_SMALL : mg "SMALL" = some (Value.str "abcdefghijklmnopqrstuvwxyz" k_SMALL)

section
variable {P : Program} {w : World} {K : PySem.W.Frag} {mg : Str → Option Value} {base : Heap}


/-! the walk: one step a construct -/
open PySem PySem.Spec PyProof.Rows L2 Dpr
local macro_rules | `(tactic| walk_at "hp") => `(tactic| first
  | assumption
  | exact upd_same
  | (apply hp_upd; assumption; walk_at "hp")
  | (apply hp_upd2; assumption; walk_at "hp")
  | (apply same_at; assumption; walk_at "hp"))
local macro_rules | `(tactic| walk_at "sq") => `(tactic| first
  | assumption
  | exact SqL.of (by assumption)
  | exact SqL.of upd_same
  | exact SqT.of (by assumption)
  | (apply SqL.of; walk_at "hp")
  | (apply SqT.of; walk_at "hp")
  | (apply Same.seq; assumption; walk_at "sq")
  | (apply same_tup; assumption; walk_at "sq"))
local macro_rules | `(tactic| walk_at "sz") => `(tactic| first
  | omega
  | (simp only [List.length_map, List.length_append, List.length_cons, List.length_nil, List.length_range, List.length_replicate, List.length_take]; omega))
local macro_rules | `(tactic| walk_at "w1") => `(tactic| first
  | with_reducible refine w_seq ?_
  | with_reducible refine w_asg ?_
  | ((with_reducible apply w_var); rfl)
  | with_reducible refine w_c ?_
  | with_reducible refine w_op ?_
  | with_reducible refine w_un ?_
  | with_reducible refine w_I0 ?_
  | with_reducible refine w_U ?_
  | with_reducible refine w_bl ?_
  | with_reducible refine w_test ?_
  | with_reducible refine w_tB ?_
  | ((with_reducible refine w_eq ?_ ?_); rfl)
  | ((with_reducible refine w_ne ?_ ?_); rfl)
  | with_reducible refine w_if ?_
  | with_reducible refine w_cons ?_
  | with_reducible refine w_nil ?_
  | with_reducible refine w_itT ?_
  | with_reducible refine w_itF ?_
  | ((with_reducible refine w_itS1 ?_ ?_); decide +kernel)
  | ((with_reducible refine w_itS0 ?_ ?_); decide +kernel)
  | ((with_reducible refine w_itN1 ?_ ?_); decide +kernel)
  | ((with_reducible refine w_itN0 ?_ ?_); decide +kernel)
  | with_reducible refine w_dget ?_
  | ((with_reducible apply w_DG1); (walk_at "hp"); assumption)
  | ((with_reducible refine w_itC ?_ ?_); (first | decide +kernel | (simp only [List.length_cons, List.length_nil]; decide +kernel)))
  | ((with_reducible refine w_itD ?_ ?_); (first | decide +kernel | (simp only [List.length_cons, List.length_nil]; decide +kernel)))
  | with_reducible refine w_asgG ?_
  | with_reducible refine w_drop ?_
  | with_reducible refine w_ret ?_
  | with_reducible refine w_retN ?_
  | with_reducible refine w_next ?_
  | with_reducible refine w_cont ?_
  | with_reducible refine w_brk ?_
  | ((with_reducible apply w_aug); rfl)
  | with_reducible refine w_ipI ?_
  | with_reducible refine w_chain ?_
  | with_reducible refine w_and ?_
  | with_reducible refine w_or ?_
  | with_reducible refine w_not ?_
  | with_reducible refine w_andV ?_
  | with_reducible refine w_orV ?_
  | with_reducible refine w_notV ?_
  | with_reducible refine w_ifx ?_
  | with_reducible refine w_call ?_
  | with_reducible refine w_cb ?_
  | ((with_reducible refine w_for ?_); (try simp only [List.set_cons_zero, List.set_cons_succ]))
  | ((with_reducible refine w_lc ?_); (try simp only [List.set_cons_zero, List.set_cons_succ]))
  | with_reducible refine w_bm ?_
  | with_reducible refine w_bm0 ?_
  | ((with_reducible apply w_BML); (walk_at "hp"))
  | ((with_reducible apply w_BM0L); (walk_at "hp"))
  | ((with_reducible apply w_append); (walk_at "hp"); (try (walk_at "sz")))
  | ((with_reducible apply w_gTup); (walk_at "sq"); rfl)
  | with_reducible refine w_gCons ?_
  | with_reducible refine w_gNil ?_
  | with_reducible refine w_gName ?_
  | with_reducible refine w_iE ?_
  | ((with_reducible apply w_IE1); (walk_at "sq"))
  | with_reducible refine w_intB ?_
  | with_reducible refine w_tm1 ?_
  | with_reducible refine w_M11 ?_
  | ((with_reducible apply w_inL); (walk_at "sq"); rfl; rfl)
  | ((with_reducible apply w_inT); (walk_at "sq"); rfl; rfl)
  | ((with_reducible apply w_niL); (walk_at "sq"); rfl; rfl)
  | ((with_reducible apply w_niT); (walk_at "sq"); rfl; rfl)
  | with_reducible refine w_bit1 ?_
  | with_reducible refine w_shrN ?_
  | ((with_reducible refine w_shlN ?_ ?_); omega)
  | ((with_reducible refine w_divP ?_ ?_); omega)
  | with_reducible refine w_iL ?_
  | with_reducible refine w_iT ?_
  | with_reducible refine w_iR1 ?_
  | with_reducible refine w_iR2 ?_
  | ((with_reducible apply w_IL1); (walk_at "sq"))
  | ((with_reducible apply w_IT1); (walk_at "sq"))
  | ((with_reducible refine w_IR1 ?_ ?_); (walk_at "sz"))
  | ((with_reducible refine w_IR2 ?_ ?_); (walk_at "sz"))
  | ((with_reducible apply w_sl); (walk_at "sq"); intro _ _ _ _ _)
  | with_reducible refine w_tsl ?_
  | with_reducible refine w_tnp ?_
  | with_reducible refine w_tpt ?_
  | with_reducible refine w_pt ?_
  | ((with_reducible apply w_cat); (walk_at "hp"); (walk_at "hp"); (try (walk_at "sz")))
  | ((with_reducible apply w_listL); (walk_at "sq"); intro _ _ _ _ _)
  | ((with_reducible apply w_listT); (walk_at "sq"); intro _ _ _ _ _)
  | with_reducible refine w_tbits ?_
  | with_reducible refine w_bits ?_
  | with_reducible refine w_tup ?_
  | with_reducible refine w_lst ?_
  | ((with_reducible refine w_alT ?_ ?_); (exact sz_le rfl); intro _ _ _ _ _)
  | ((with_reducible refine w_alL ?_ ?_); (exact sz_le rfl); intro _ _ _ _ _)
  | with_reducible refine w_abs ?_
  | with_reducible refine w_max2 ?_
  | with_reducible refine w_min2 ?_
  | ((with_reducible refine w_I ?_ ?_); (first | exact ⟨by decide, by decide⟩ | (show (_ : Int) < _; decide) | exact p2pos _ | exact ⟨by omega, by omega, by decide⟩ | exact ⟨by omega, by omega⟩ | (show (_ : Int) < _; omega) | (show (_ : Int) ≤ _; omega) | exact .of_left (by decide) | exact .of_right (by decide) | exact mul_sm (by omega) | exact mul_sm2 (by omega) | exact mul_cc (by assumption) (by assumption) | exact mul_ok2 (n := 250) (by assumption) (by decide) (by decide)))
  | ((with_reducible apply w_ixL); (walk_at "sq"); rfl)
  | ((with_reducible apply w_ixT); (walk_at "sq"); rfl)
  | ((with_reducible apply w_lenL); (walk_at "sq"))
  | ((with_reducible apply w_lenT); (walk_at "sq"))
  | (with_reducible refine w_isi (TyX.base (TyOf.int _)) (kit_ii _) ?_)
  | (with_reducible refine w_isi (TyX.base (TyOf.int _)) (kit_ib _) ?_)
  | (with_reducible refine w_isi (TyX.base (TyOf.bl _)) (kit_bi _) ?_)
  | (with_reducible refine w_isi (TyX.base (TyOf.bl _)) (kit_bb _) ?_)
  | (with_reducible refine w_isi (TyX.base (TyOf.str _)) (kit_ss _) ?_)
  | ((with_reducible apply w_isiT); (walk_at "hp"))
  | ((with_reducible apply w_isiL); (walk_at "hp")))
local macro_rules | `(tactic| walk_at "split") => `(tactic| first
  | ((with_reducible refine w_itS ?_ ?_) <;> intro _)
  | ((with_reducible refine w_itSN ?_ ?_) <;> intro _)
  | ((with_reducible refine w_itI ?_ ?_) <;> intro _)
  | ((with_reducible refine w_itN ?_ ?_) <;> intro _)
  | ((with_reducible refine w_itn ?_ ?_) <;> intro _)
  | ((with_reducible refine w_itd ?_ ?_) <;> intro _)
  | ((with_reducible refine w_itb ?_ ?_) <;> intro _))
local macro_rules | `(tactic| walk_at "wk") => `(tactic| repeat' (walk_at "w1"))
local macro_rules | `(tactic| walk_at "ws") => `(tactic| repeat' (first | (walk_at "w1") | ((walk_at "split") <;> (try (exfalso; omega)))))

local macro_rules | `(tactic| walk_at "w1") => `(tactic| first
  | ((with_reducible refine w_disp ?_); intro _ _ _ _ _)
  | with_reducible refine w_pairs ?_
  | with_reducible refine w_pairs0 ?_
  | ((with_reducible apply w_dictD); (walk_at "hp"); intro _ _ _ _ _))

local macro_rules | `(tactic| walk_at "w1") => `(tactic| first
  | with_reducible refine w_dput ?_
  | ((with_reducible apply w_DPutB); (walk_at "hp"); (walk_at "sz"))
  | ((with_reducible apply w_insert); (walk_at "hp"); (walk_at "sz"); omega)
  | ((with_reducible refine w_dnewK ?_); intro _ _ _ _ _)
  | with_reducible refine w_revR ?_
  | with_reducible refine w_rg1 ?_
  | with_reducible refine w_RG1 ?_
  | ((with_reducible refine w_RevB ?_ ?_); omega))

local macro_rules | `(tactic| walk_at "w1") => `(tactic| first
  | ((with_reducible apply w_slT1); (walk_at "sq"); intro _ _ _ _ _))

local macro_rules | `(tactic| walk_at "w1") => `(tactic| first
  | with_reducible refine w_isNo1 ?_
  | with_reducible refine w_isNo0 ?_
  | with_reducible refine w_notNo1 ?_
  | with_reducible refine w_notNo0 ?_)

local macro_rules | `(tactic| walk_at "lk") => `(tactic| first
  | exact lookup_hd
  | exact lookup_no
  | ((refine lookup_tl ?_ ?_); decide +kernel; (walk_at "lk")))
local macro_rules | `(tactic| walk_at "w1") => `(tactic| first
  | with_reducible refine w_fld ?_
  | ((with_reducible apply w_FldB); (walk_at "hp"); assumption; assumption; (walk_at "lk"))
  | with_reducible refine w_sfld ?_
  | ((with_reducible apply w_SFldB); (walk_at "hp"); assumption; assumption; exact Nat.le_of_ble_eq_true rfl)
  | with_reducible refine w_meth ?_
  | ((with_reducible apply w_MethB); (walk_at "hp"); (walk_at "lk")))

local macro_rules | `(tactic| walk_at "w1") => `(tactic| first
  | with_reducible refine w_dnin ?_
  | with_reducible refine w_mk ?_
  | ((with_reducible refine w_MkB ?_); intro _ _ _ _ _ _ _)
  | with_reducible refine w_notNoI ?_
  | with_reducible refine w_din ?_
  | ((with_reducible refine w_dnewT ?_); intro _ _ _ _ _)
  | with_reducible refine w_gSub ?_
  | ((with_reducible apply w_tupL); (walk_at "sq"); intro _ _ _ _ _))

local macro_rules | `(tactic| walk_at "w1") => `(tactic| first
  | with_reducible refine w_methS ?_
  | ((with_reducible apply w_MethSB); (walk_at "hp"); (walk_at "lk"))
  | with_reducible refine w_callS ?_)

local macro_rules | `(tactic| walk_at "w1") => `(tactic| first
  | ((with_reducible apply w_BM0D); (walk_at "hp"))
  | ((with_reducible apply w_copyD); (walk_at "hp"); intro _ _ _ _ _)
  | ((with_reducible refine w_addS ?_ ?_); omega))

/-! lengths of short lists and tuples -/
theorem w_lenT2 {K : PySem.W.Frag} {H : Hp} {Q : VK} {p : Addr} {x y : V} (h : SqT K H p [x, y]) (q : Q (.int 2) H) : rLen K [.ref p] H Q := ⟨p, _, rfl, .inr h, q⟩
theorem w_lenT3 {K : PySem.W.Frag} {H : Hp} {Q : VK} {p : Addr} {x y z : V} (h : SqT K H p [x, y, z]) (q : Q (.int 3) H) : rLen K [.ref p] H Q := ⟨p, _, rfl, .inr h, q⟩
local macro_rules | `(tactic| walk_at "w1") => `(tactic| first
  | ((with_reducible apply w_lenT2); (walk_at "sq"))
  | ((with_reducible apply w_lenT3); (walk_at "sq")))
theorem w_lenL0 {K : PySem.W.Frag} {H : Hp} {Q : VK} {p : Addr} (h : SqL K H p []) (q : Q (.int 0) H) : rLen K [.ref p] H Q := ⟨p, _, rfl, .inl h, q⟩
theorem w_lenL1 {K : PySem.W.Frag} {H : Hp} {Q : VK} {p : Addr} {x : V} (h : SqL K H p [x]) (q : Q (.int 1) H) : rLen K [.ref p] H Q := ⟨p, _, rfl, .inl h, q⟩
theorem w_lenL2 {K : PySem.W.Frag} {H : Hp} {Q : VK} {p : Addr} {x y : V} (h : SqL K H p [x, y]) (q : Q (.int 2) H) : rLen K [.ref p] H Q := ⟨p, _, rfl, .inl h, q⟩
local macro_rules | `(tactic| walk_at "w1") => `(tactic| first
  | ((with_reducible apply w_lenL0); (walk_at "sq"))
  | ((with_reducible apply w_lenL1); (walk_at "sq"))
  | ((with_reducible apply w_lenL2); (walk_at "sq")))

local macro_rules | `(tactic| walk_at "w1") => `(tactic| first
  | ((with_reducible refine w_lenS ?_ ?_); (walk_at "sz"))
  | ((with_reducible refine w_strI ?_ ?_); (exact small_abs (by omega))))
local macro_rules | `(tactic| walk_at "w1") => `(tactic| first
  | with_reducible refine w_strAS ?_
  | ((with_reducible refine w_strAI ?_ ?_); (exact small_abs (by omega))))

/-! numbers drawn from a cell -/
def mixF (c k : Int) : Int :=
  if 10 ^ Int.toNat 40 ≤ c then (c - 10 ^ Int.toNat 40) / (1 * 2 ^ (100 * (k % 60)).toNat) % (1 * 2 ^ Int.toNat 100)
  else ((c * c + 3 * c + 7919 * k + 1) * 48271 % 2147483629 * ((c * c + 3 * c + 7919 * k + 1) * 48271 % 2147483629) + 7) % 2147483587
theorem mixF_bd (c k : Int) : 0 ≤ mixF c k ∧ mixF c k < 2 ^ 100 := by
  unfold mixF
  have e : (1 : Int) * 2 ^ Int.toNat 100 = 2 ^ 100 := by decide
  split
  · rw [e]
    exact ⟨Int.emod_nonneg _ (by decide), Int.emod_lt_of_pos _ (by decide)⟩
  · have h1 := Int.emod_nonneg ((c * c + 3 * c + 7919 * k + 1) * 48271 % 2147483629 * ((c * c + 3 * c + 7919 * k + 1) * 48271 % 2147483629) + 7) (show (2147483587 : Int) ≠ 0 by decide)
    have h2 := Int.emod_lt_of_pos ((c * c + 3 * c + 7919 * k + 1) * 48271 % 2147483629 * ((c * c + 3 * c + 7919 * k + 1) * 48271 % 2147483629) + 7) (show (0 : Int) < 2147483587 by decide)
    exact ⟨h1, Int.lt_trans h2 (by decide)⟩
theorem mul_cd {i j : Int} (hi : Builtin.Int.intBits i ≤ 1048600) (hj : Builtin.Int.intBits j ≤ 1048600) : IntMulOk i j :=
  CMulX.ok (show (Builtin.Int.intBits i : Int) + (Builtin.Int.intBits j : Int) ≤ 134217728 by omega)
local macro_rules | `(tactic| walk_at "w1") => `(tactic| ((with_reducible refine w_I ?_ ?_); (exact mul_cd (by assumption) (by assumption))))
def sp_law_mixed (K : PySem.W.Frag) : Sp := fun vs H Q _ => ∃ c k : Int, vs = [.int c, .int k] ∧ Builtin.Int.intBits c ≤ 1048600 ∧ (0 ≤ k ∧ k ≤ 1000000) ∧ Q (.int (mixF c k)) H
theorem ok_law_mixed (T : Top K mg) : FnOk P w K mg base CX0 1 T.a_law_mixed T.d_law_mixed ["_law_cell", "_law_k"] (sp_law_mixed K) := by
  refine T.f_law_mixed.ok sc_law_mixed (fun vs H Q E h => ?_) (fun cdv A outer s H vs Q E hr h => ?_)
  · obtain ⟨c, k, rfl, _⟩ := h
    rfl
  obtain ⟨c, k, rfl, h⟩ := h
  refine ⟨_, (pss_cons (ps_if (pt_cmpR op_ge (pv 0) (pe_op op_pow pe_int pe_int) (nomark _)) (pss_one (ps_ret (pe_op op_mod (pe_op op_fdivW (pe_op op_sub (pv 0) (pe_op op_pow pe_int pe_int)) (pe_op op_shl pe_int (pe_op op_mulI pe_int (pe_op op_mod (pv 1) pe_int)))) (pe_op op_shl pe_int pe_int)))) pss_nil)
      (pss_cons (ps_set (i := 2) sc_law_mixed.nd rfl (.inl rfl) (pe_op op_mod (pe_op op_mulI (pe_op op_add (pe_op op_add (pe_op op_add (pe_op op_mulI (pv 0) (pv 0)) (pe_op op_mulI pe_int (pv 0))) (pe_op op_mulI pe_int (pv 1))) pe_int) pe_int) pe_int))
      (pss_one (ps_ret (pe_op op_mod (pe_op op_add (pe_op op_mulI (pv 2) (pv 2)) pe_int) pe_int))))), ?_⟩
  try dsimp only [cxOf, Cx.nox, Cx.wish]
  simp only [L2.start, List.map_cons, List.map_nil, List.length_cons, List.length_nil, Nat.reduceAdd, Nat.reduceSub, List.replicate_succ, List.replicate_zero, List.cons_append, List.nil_append]
  obtain ⟨hc, hk, h⟩ := h
  walk_at "ws"
  · rename_i hb
    have hp : (0 : Int) < 1 * 2 ^ (100 * (k % 60)).toNat := by
      rw [Int.one_mul]
      exact p2pos _
    refine w_I (wide_div hp (b := 6001) (by rw [abs_pow]; exact Nat.pow_lt_pow_right (by decide) (by omega)) (by decide) (by decide)) ?_
    walk_at "ws"
    have e : mixF c k = (c - 10 ^ Int.toNat 40) / (1 * 2 ^ (100 * (k % 60)).toNat) % (1 * 2 ^ Int.toNat 100) := by rw [mixF, if_pos hb]
    rw [e] at h
    exact h
  · rename_i hb
    have e : mixF c k = ((c * c + 3 * c + 7919 * k + 1) * 48271 % 2147483629 * ((c * c + 3 * c + 7919 * k + 1) * 48271 % 2147483629) + 7) % 2147483587 := by rw [mixF, if_neg hb]
    rw [e] at h
    exact h
theorem use_mixed {c k : Int} {H : Hp} {Q : VK} {E : XK} (hc : Builtin.Int.intBits c ≤ 1048600) (hk : 0 ≤ k ∧ k ≤ 1000000) (h : ∀ v, mixF c k = v → 0 ≤ v → v < 2 ^ 100 → Q (.int v) H) : sp_law_mixed K ([.int c, .int k] ++ []) H Q E :=
  ⟨c, k, rfl, hc, hk, h _ rfl (mixF_bd c k).1 (mixF_bd c k).2⟩
local macro_rules | `(tactic| walk_at "w1") => `(tactic| ((with_reducible refine use_mixed ?_ ?_ ?_); (first | assumption | exact Nat.le_trans (by assumption) (by decide)); omega; intro _ _ _ _))

/-! names: one to six small letters -/
def letter (c : Nat) : Prop := 97 ≤ c ∧ c ≤ 122
def NameOk (s : Str) : Prop := (1 ≤ s.length ∧ s.length ≤ 6) ∧ ∀ c ∈ s.cps.toList, letter c
theorem letters_at (i : Int) (h : 0 ≤ i ∧ i < 26) : ∃ c, atI (Str.ofString "abcdefghijklmnopqrstuvwxyz").cps.toList i = some c ∧ letter c := by
  have e : (Str.ofString "abcdefghijklmnopqrstuvwxyz").cps.toList = (List.range 26).map (· + 97) := by decide +kernel
  rw [e]
  obtain ⟨n, rfl⟩ := Int.eq_ofNat_of_zero_le h.1
  have hn : n < 26 := by omega
  refine ⟨n + 97, atI_nat ?_, by unfold letter; omega⟩
  rw [List.getElem?_map, List.getElem?_range hn]
  rfl
theorem tl_concat : ∀ ss : List Str, (Txt.join "" ss).cps.toList = (ss.map fun s => s.cps.toList).flatten := by
  intro ss
  have h : TL.tl (Txt.join "" ss) = TL.joinL (TL.tl "") (ss.map TL.tl) := by rw [TL.join_eq, TL.tl_join]
  have e : TL.tl "" = [] := by decide +kernel
  rw [e] at h
  have key : ∀ l : List (List Nat), TL.joinL [] l = l.flatten := by
    intro l
    induction l with
    | nil => rfl
    | cons p r ih =>
      cases r with
      | nil => exact (List.append_nil p).symm
      | cons q r => show p ++ ([] ++ TL.joinL [] (q :: r)) = p ++ (q :: r).flatten; rw [List.nil_append, ih]
  rw [key] at h
  exact h
/-- signs that are one letter each -/
def oneL (s : Str) : Prop := ∃ c, s = ⟨#[c]⟩ ∧ letter c
theorem ones_join {ss : List Str} (h : ∀ s ∈ ss, oneL s) : (Txt.join "" ss).length = ss.length ∧ ∀ c ∈ (Txt.join "" ss).cps.toList, letter c := by
  have e := tl_concat ss
  have key : ∀ ss : List Str, (∀ s ∈ ss, oneL s) → (ss.map fun s => s.cps.toList).flatten.length = ss.length ∧ ∀ c ∈ (ss.map fun s => s.cps.toList).flatten, letter c := by
    intro ss
    induction ss with
    | nil => intro _; exact ⟨rfl, fun c hc => by cases hc⟩
    | cons s r ih =>
      intro h
      obtain ⟨c, rfl, hc⟩ := h s (List.mem_cons_self ..)
      obtain ⟨h1, h2⟩ := ih fun z hz => h z (List.mem_cons_of_mem _ hz)
      refine ⟨?_, fun d hd => ?_⟩
      · show (c :: (r.map fun s => s.cps.toList).flatten).length = (r.length + 1)
        rw [List.length_cons, h1]
      · rcases List.mem_cons.mp (show d ∈ c :: (r.map fun s => s.cps.toList).flatten from hd) with q | q
        · rw [q]; exact hc
        · exact h2 d q
  obtain ⟨k1, k2⟩ := key ss h
  refine ⟨?_, fun c hc => k2 c (by rw [← e]; exact hc)⟩
  rw [← k1, ← e]
  exact (Array.length_toList).symm
theorem ones_sum : ∀ {ss : List Str}, (∀ s ∈ ss, oneL s) → (ss.map (·.length)).sum = ss.length
  | [], _ => rfl
  | s :: r, h => by
    obtain ⟨c, rfl, hc⟩ := h s (List.mem_cons_self ..)
    have ih := ones_sum fun z hz => h z (List.mem_cons_of_mem _ hz)
    rw [List.map_cons, List.sum_cons, ih, List.length_cons]
    show 1 + r.length = r.length + 1
    omega
theorem cut_name {z : Str} {n : Nat} (hz : n ≤ z.length) (h : ∀ c ∈ z.cps.toList, letter c) (hn : 1 ≤ n ∧ n ≤ 6) : NameOk (cutS z none (some (n : Int))) := by
  have e : (cutS z none (some (n : Int))).cps.toList = z.cps.toList.take n := by
    unfold cutS
    rw [HT.sIx_none, HT.sIx_nat, Nat.min_eq_left hz, List.drop_zero, Nat.sub_zero, List.toList_toArray]
  have hl : (cutS z none (some (n : Int))).length = n := by
    have : (cutS z none (some (n : Int))).length = (cutS z none (some (n : Int))).cps.toList.length := (Array.length_toList).symm
    rw [this, e, List.length_take]
    have : z.cps.toList.length = z.length := Array.length_toList
    omega
  refine ⟨by rw [hl]; exact hn, fun c hc => ?_⟩
  rw [e] at hc
  exact h c (List.mem_of_mem_take hc)
theorem name_strOk {s : Str} (h : NameOk s) : PyData.strOk s = true := by
  unfold PyData.strOk
  rw [Array.all_eq_true_iff_forall_mem]
  intro c hc
  have := h.2 c (Array.mem_toList_iff.mpr hc)
  unfold letter at this
  exact decide_eq_true (by omega)

/-! formulas drawn -/
theorem letters_ix {i : Int} (h : 0 ≤ i ∧ i < 26) {H : Hp} {Q : VK} (q : ∀ c, letter c → Q (.str ⟨#[c]⟩) H) : rIxS (.str (Str.ofString "abcdefghijklmnopqrstuvwxyz")) (.int i) H Q := by
  obtain ⟨c, e, hc⟩ := letters_at i h
  exact w_ixS (by decide +kernel) e (q c hc)
def sp_law_names (K : PySem.W.Frag) : Sp := fun vs H Q _ => ∃ n : Int, vs = [.int n] ∧ Builtin.Int.intBits n ≤ 1048576 ∧
  ∀ (nm : List Str) p H', nm.length = 5 → (∀ x ∈ nm, NameOk x) → H p = none → Same H H' → H' p = some (.lst (nm.map V.str)) → Q (.ref p) H'
theorem ok_law_names (T : Top K mg) : FnOk P w K mg base CX0 2 T.a_law_names T.d_law_names ["_law_cell"] (sp_law_names K) := by
  refine T.f_law_names.ok sc_law_names (fun vs H Q E h => ?_) (fun cdv A outer s H vs Q E hr h => ?_)
  · obtain ⟨n, rfl, _⟩ := h
    rfl
  obtain ⟨n, rfl, h⟩ := h
  refine ⟨_, (pss_cons (ps_set (i := 1) sc_law_names.nd rfl (.inl rfl) pe_str)
      (pss_cons (ps_set (i := 2) sc_law_names.nd rfl (.inl rfl) (pe_call (ok_law_mixed T) (hr.mono (by decide)) (by rfl) T.g_law_mixed T.f_law_mixed.kp T.b_law_mixed .nil pass0 (pa_cons (pv 0) (pa_cons pe_int pa_nil))))
      (pss_cons (ps_set (i := 3) sc_law_names.nd rfl (.inl rfl) (pe_op op_add pe_int (pe_op op_mod (pv 2) pe_int)))
      (pss_cons (ps_set (i := 4) sc_law_names.nd rfl (.inl rfl) (pe_op op_mod (pe_op op_fdiv (pv 2) pe_int) (pv 3)))
      (pss_cons (ps_set (i := 5) sc_law_names.nd rfl (.inl rfl) (pe_lst pa_nil))
      (pss_cons (ps_for PassesOwn.never rfl (pi_range1 (by rfl) T.z_range (pa_cons pe_int pa_nil)) (pg_name (i := 6) sc_law_names.nd rfl (.inl rfl))
      (pss_cons (ps_set (i := 7) sc_law_names.nd rfl (.inl rfl) pe_str)
      (pss_cons (ps_for PassesOwn.never rfl (pi_range1 (by rfl) T.z_range (pa_cons (pv 3) pa_nil)) (pg_name (i := 8) sc_law_names.nd rfl (.inl rfl))
      (pss_cons (ps_set (i := 9) sc_law_names.nd rfl (.inl rfl) (pe_op op_add (pe_op op_add (pe_op op_fdiv (pv 2) pe_int) (pe_op op_mulI (pv 8) (pv 8))) (pe_op op_mulI (pe_callTy c_intB (by rfl) T.z_int (by decide +kernel) (pa_cons (pe_cmpR op_eq (pv 8) (pv 4) (nomark _)) pa_nil)) (pv 6))))
      (pss_one (ps_set (i := 7) sc_law_names.nd rfl (.inl rfl) (pe_op op_addS (pv 7) (pe_ix ix_str (pv 1) (pe_op op_mod (pv 9) pe_int) (fun _ _ => rfl)))))))
      (pss_one (ps_expr (pe_bm PySem.F.plainAttrs_list PySem.F.slot_list_append PySem.F.type_list_append mt_append (pv 5) (pa_cons (pv 7) pa_nil)))))))
      (pss_one (ps_ret (pv 5))))))))), ?_⟩
  try dsimp only [cxOf, Cx.nox, Cx.wish]
  simp only [L2.start, List.map_cons, List.map_nil, List.length_cons, List.length_nil, Nat.reduceAdd, Nat.reduceSub, List.replicate_succ, List.replicate_zero, List.cons_append, List.nil_append]
  obtain ⟨hn, h⟩ := h
  walk_at "ws"
  rename_i v hv v0 v1 o H1 n1 s1 e1
  have hsz : 1 ≤ 1 + v % 6 ∧ 1 + v % 6 ≤ 6 := by omega
  generalize 1 + v % 6 = sz at *
  generalize v / 6 % sz = pl at *
  have hv36 : 0 ≤ v / 36 := by omega
  refine for_r (fun i σ' G => ∃ (nm : List Str) (y6 y7 y8 y9 : Option V), σ' = [some (.int n), some (.str "abcdefghijklmnopqrstuvwxyz"), some (.int v), some (.int sz), some (.int pl), some (.ref o), y6, y7, y8, y9] ∧ Same H G ∧ G o = some (.lst (nm.map V.str)) ∧ nm.length = i ∧ ∀ x ∈ nm, NameOk x) ⟨[], _, _, _, _, rfl, s1, e1, rfl, fun x h => (by cases h)⟩ (fun i σ' G hi q => ?_) (fun σ' G q => ?_)
  · obtain ⟨nm, y6, y7, y8, y9, rfl, sG, eG, hnm, hok⟩ := q
    have hi5 : i < 5 := hi
    walk_at "ws"
    refine for_r (fun j σ2 G2 => ∃ (z : Str) (y8 y9 : Option V), σ2 = [some (.int n), some (.str "abcdefghijklmnopqrstuvwxyz"), some (.int v), some (.int sz), some (.int pl), some (.ref o), some (.int (i : Int)), some (.str z), y8, y9] ∧ G2 = G ∧ z.length = j ∧ ∀ c ∈ z.cps.toList, letter c) ⟨_, _, _, rfl, rfl, by decide +kernel, fun c hc => by
      have e : (Str.ofString "").cps.toList = [] := by decide +kernel
      rw [e] at hc
      cases hc⟩ (fun j σ2 G2 hj q => ?_) (fun σ2 G2 q => ?_)
    · obtain ⟨z, y8, y9, rfl, rfl, hzl, hzc⟩ := q
      have hj6 : j < 6 := by omega
      have jj : (0 : Int) ≤ (j : Int) * (j : Int) := Int.mul_nonneg (Int.natCast_nonneg j) (Int.natCast_nonneg j)
      walk_at "ws"
      refine letters_ix ⟨Int.emod_nonneg _ (by decide), Int.emod_lt_of_pos _ (by decide)⟩ fun c hc => ?_
      have hcl : (⟨#[c]⟩ : Str).length = 1 := rfl
      walk_at "ws"
      refine ⟨z ++ ⟨#[c]⟩, _, _, rfl, rfl, by rw [app_len, hzl, hcl], fun d hd => ?_⟩
      rw [app_cps] at hd
      rcases List.mem_append.mp hd with k | k
      · exact hzc d k
      · rw [List.mem_singleton.mp (show d ∈ [c] from k)]; exact hc
    · obtain ⟨z, y8, y9, rfl, rfl, hzl, hzc⟩ := q
      have hzs : z.length = sz.toNat := hzl
      have hnz : (nm.map V.str).length ≤ 100 := by rw [List.length_map]; omega
      walk_at "ws"
      refine ⟨nm ++ [z], _, _, _, _, rfl, same_mut sG n1, by rw [upd_same, List.map_append]; rfl, by rw [List.length_append, hnm]; rfl, fun x hx => ?_⟩
      rcases List.mem_append.mp hx with k | k
      · exact hok x k
      · rw [List.mem_singleton.mp k]
        exact ⟨by omega, hzc⟩
  · obtain ⟨nm, y6, y7, y8, y9, rfl, sG, eG, hnm, hok⟩ := q
    walk_at "ws"
    exact h nm o G hnm hok n1 sG eG
def sp_law_leaf (K : PySem.W.Frag) : Sp := fun vs H Q _ => ∃ (v : Int) (a : Addr) (nm : List Str), vs = [.int v, .ref a] ∧ 0 ≤ v ∧ v < 2 ^ 100 ∧ SqL K H a (nm.map V.str) ∧ 0 < nm.length ∧
  ∀ (f : Fm) p H', f.size = 1 → FmOk (· ∈ nm) f → H p = none → Same H H' → FmAt H' p f → Q (.ref p) H'
theorem get_strN {ns : List Str} {i : Int} (h : 0 ≤ i ∧ i < ns.length) : ∃ x, atI (ns.map V.str) i = some (.str x) ∧ x ∈ ns := by
  obtain ⟨n, rfl⟩ := Int.eq_ofNat_of_zero_le h.1
  have hn : n < ns.length := by omega
  exact ⟨ns[n], atI_nat (by rw [List.getElem?_map, List.getElem?_eq_getElem hn]; rfl), List.getElem_mem hn⟩
theorem ok_law_leaf (T : Top K mg) : FnOk P w K mg base CX0 1 T.a_law_leaf T.d_law_leaf ["_law_mixed_here", "_law_names_here"] (sp_law_leaf K) := by
  refine T.f_law_leaf.ok sc_law_leaf (fun vs H Q E h => ?_) (fun cdv A outer s H vs Q E hr h => ?_)
  · obtain ⟨v, a, nm, rfl, _⟩ := h
    rfl
  obtain ⟨v, a, nm, rfl, h⟩ := h
  refine ⟨_, (pss_cons (ps_if (pt_cmpR op_gt (pe_op op_mod (pv 0) pe_int) pe_int (nomark _)) (pss_one (ps_ret (pe_tup (pa_cons pe_str (pa_cons (pe_ix (ix_listK K) (pv 1) (pe_op op_mod (pe_op op_fdiv (pv 0) pe_int) (pe_callB (c_lenK K) (by rfl) T.z_len PySem.boot_len (pa_cons (pv 1) pa_nil))) (fun _ _ => rfl)) pa_nil))))) pss_nil)
      (pss_cons (ps_if (pt_cmpR op_eq (pe_op op_mod (pe_op op_fdiv (pv 0) pe_int) pe_int) pe_int (nomark _)) (pss_one (ps_ret (pe_tup (pa_cons pe_str (pa_cons (pe_op op_mod (pe_op op_mulI (pv 0) (pv 0)) (pe_op op_add (pe_op op_pow pe_int pe_int) pe_int)) pa_nil))))) pss_nil)
      (pss_one (ps_ret (pe_tup (pa_cons pe_str (pa_cons (pe_op op_mod (pe_op op_fdiv (pv 0) pe_int) pe_int) pa_nil))))))), ?_⟩
  try dsimp only [cxOf, Cx.nox, Cx.wish]
  simp only [L2.start, List.map_cons, List.map_nil, List.length_cons, List.length_nil, Nat.reduceAdd, Nat.reduceSub, List.replicate_succ, List.replicate_zero, List.cons_append, List.nil_append]
  obtain ⟨v0, v1, hS, hl, h⟩ := h
  have hml : (nm.map V.str).length = nm.length := List.length_map ..
  have hpow : (10 : Int) ^ Int.toNat 12 = 1000000000000 := by decide
  have hab : v.natAbs < 2 ^ 100 := by omega
  walk_at "ws"
  · obtain ⟨x, hx, mx⟩ := get_strN (ns := nm) (i := v / 3 % ((nm.map V.str).length : Int)) (by rw [hml]; exact ⟨Int.emod_nonneg _ (by omega), Int.emod_lt_of_pos _ (by omega)⟩)
    refine w_ixL hS hx ?_
    walk_at "ws"
    exact h (.name x) _ _ rfl mx (by assumption) (by assumption) (by assumption)
  · refine w_I (mul_abs hab hab (by decide)) ?_
    walk_at "ws"
    rename_i eq
    rw [hpow] at eq
    exact h (.num (v * v % (1000000000000 + 1))) _ _ rfl ⟨Int.emod_nonneg _ (by decide), Int.lt_add_one_iff.mp (Int.emod_lt_of_pos _ (by decide))⟩ (by assumption) (by assumption) eq
  · exact h (.num (v / 12 % 20)) _ _ rfl ⟨by omega, by omega⟩ (by assumption) (by assumption) (by assumption)
theorem A2.unsnoc {α β : Type} {R : α → β → Prop} {xs : List α} {x : α} {ys : List β} (h : A2 R (xs ++ [x]) ys) : ∃ (zs : List β) (y : β), ys = zs ++ [y] ∧ A2 R xs zs ∧ R x y := by
  have hl := h.1
  rw [List.length_append, List.length_singleton] at hl
  have hne : ys ≠ [] := fun z => by rw [z] at hl; cases hl
  refine ⟨ys.dropLast, ys.getLast hne, (List.dropLast_concat_getLast hne).symm, ⟨by rw [List.length_dropLast]; omega, fun i u v hu hv => ?_⟩, ?_⟩
  · have hi := (List.getElem?_eq_some_iff.mp hu).1
    refine h.2 i u v (by rw [List.getElem?_append_left hi]; exact hu) ?_
    rw [List.getElem?_dropLast] at hv
    split at hv
    · exact hv
    · cases hv
  · refine h.2 xs.length x _ (by rw [List.getElem?_append_right (Nat.le_refl _), Nat.sub_self]; rfl) ?_
    rw [List.getLast_eq_getElem, List.getElem?_eq_getElem (show xs.length < ys.length by omega)]
    congr 1
    congr 1
    omega

theorem num_len {v : Int} (h : 0 ≤ v ∧ v ≤ 1000000000000) : ((toString v : String) : Str).length ≤ 13 := toString_length_le h.1 (by decide) (show v < 10 ^ 13 by omega)
/-! what is written is read again: texts of numbers, of formulas -/
theorem digF_val : ∀ (cs : List Nat) (a : Nat) (b : Int), PySem.NumText.AllDigits cs → b = (a : Int) → cs.foldl (fun (v : Int) (c : Nat) => 10 * v + ((c : Int) - 48)) b = ((cs.foldl (fun acc c => acc * 10 + (c - 48)) a : Nat) : Int)
  | [], a, b, _, e => e
  | c :: cs, a, b, h, e => by
    have hc : 48 ≤ c ∧ c ≤ 57 := h c (List.mem_cons_self ..)
    exact digF_val cs _ _ (fun d hd => h d (List.mem_cons_of_mem _ hd)) (by subst e; show 10 * (a : Int) + ((c : Int) - 48) = ((a * 10 + (c - 48) : Nat) : Int); omega)
theorem digF_eq {cs : List Nat} (h : PySem.NumText.AllDigits cs) : digF cs = ((PySem.NumText.digitsVal cs : Nat) : Int) := digF_val cs 0 0 h rfl
theorem dig_head : ∀ m : Nat, 1 ≤ m → ∀ c, (Nat.toDigits 10 m).head? = some c → c ≠ '0' := by
  intro m
  induction m using Nat.strongRecOn with
  | _ m ih =>
    intro h1 c hc
    by_cases h : m < 10
    · rw [Nat.toDigits_of_lt_base h] at hc
      cases hc
      have key : ∀ d : Nat, d < 10 → 1 ≤ d → Nat.digitChar d ≠ '0' := by decide
      exact key m h h1
    · have hm : m % 10 < 10 := Nat.mod_lt m (by decide)
      have t : Nat.toDigits 10 (m / 10) ++ Nat.toDigits 10 (m % 10) = Nat.toDigits 10 (10 * (m / 10) + m % 10) := Nat.toDigits_append_toDigits (by decide) (by omega) hm
      rw [Nat.div_add_mod] at t
      rw [← t] at hc
      refine ih (m / 10) (by omega) (by omega) c ?_
      have hne : Nat.toDigits 10 (m / 10) ≠ [] := fun e => by
        have h := toDigits_len_ge 10 (m / 10)
        rw [e] at h
        exact absurd h (by decide)
      cases e : Nat.toDigits 10 (m / 10) with
      | nil => exact absurd e hne
      | cons d r => rw [e] at hc; exact hc
theorem num_digits (m : Nat) : (Str.ofString (toString ((m : Nat) : Int))).cps.toList = (Nat.toDigits 10 m).map Char.toNat := PySem.W.KIN.signs_num m
theorem num_all (m : Nat) : PySem.NumText.AllDigits ((Nat.toDigits 10 m).map Char.toNat) := by
  intro c hc
  obtain ⟨ch, hch, e⟩ := List.mem_map.mp hc
  have r := digit_range (Nat.isDigit_of_mem_toDigits (by decide) (by decide) hch)
  rw [← e]
  exact r
theorem num_ne (m : Nat) : 0 < ((Nat.toDigits 10 m).map Char.toNat).length := by
  rw [List.length_map]
  exact toDigits_len_ge 10 m
theorem num_wr {v : Int} (h : 0 ≤ v ∧ v ≤ 1000000000000) : Wr 2 (.num v) (Str.ofString (toString v)).cps.toList := by
  obtain ⟨m, rfl⟩ := Int.eq_ofNat_of_zero_le h.1
  have hl := num_len h
  rw [len_cps] at hl
  rw [num_digits] at hl ⊢
  have e : digF ((Nat.toDigits 10 m).map Char.toNat) = (m : Int) := by rw [digF_eq (num_all m), PySem.W.KIN.val_back]
  have key := Wr.num (cs := (Nat.toDigits 10 m).map Char.toNat) (num_ne m) (by omega) (fun c hc => fig_iff.mpr (num_all m c hc)) (fun z => by
    by_cases q : 1 ≤ m
    · cases hd : Nat.toDigits 10 m with
      | nil => rw [hd] at z; cases z
      | cons c r =>
        rw [hd] at z
        have hc := dig_head m q c (by rw [hd]; rfl)
        have hm := Nat.isDigit_of_mem_toDigits (b := 10) (n := m) (by decide) (by decide) (c := c) (by rw [hd]; exact List.mem_cons_self ..)
        have z : c.toNat = 48 := Option.some.inj z
        exact absurd (Char.toNat_inj.mp (z.trans (show 48 = ('0' : Char).toNat from rfl))) hc
    · rw [show m = 0 by omega]
      exact Nat.le_of_ble_eq_true rfl) (by rw [e]; exact h.2)
  rw [e] at key
  exact key
theorem name_wr {m : Str} (h : NameOk m) : Wr 2 (.name m) m.cps.toList := by
  have e := len_cps m
  have h1 := h.1
  exact Wr.name (by omega) (by omega) fun c hc => small_iff.mpr (h.2 c hc)
theorem wgt_off {cs : List Nat} (h : ∀ c ∈ cs, 46 ≤ c) : wgt cs = 0 := by
  unfold wgt
  rw [List.countP_eq_zero]
  intro c hc
  have := h c hc
  simp only [Bool.or_eq_true, beq_iff_eq]
  omega

theorem w_fldaug {K : PySem.W.Frag} {D : Ends} {σ : L2.St} {H : Hp} {n : Nat} {a C dx : Addr} {fs : List (Str × V)} {f : Str} {i j : Int} (hx : σ[n]? = some (some (.ref a))) (h : H a = some (.ins C dx fs)) (c : Cls K C) (na : NoAttr K C f) (e : fs.lookup f = some (.int i)) (l : fs.length < 1000)
    (q : D.nx σ (upd H a (.ins C dx (putF f (.int (i + j)) fs)))) : sFldAug K (tVar n) (tC (.int j)) rAdd f D σ H :=
  ⟨_, hx, a, C, dx, fs, _, rfl, h, c, na, e, i, j, rfl, rfl, dx, fs, h, l, q⟩
local macro_rules | `(tactic| walk_at "w1") => `(tactic| ((with_reducible apply w_fldaug); rfl; (walk_at "hp"); assumption; assumption; (walk_at "lk"); (exact Nat.le_of_ble_eq_true rfl)))

/-! formulas read -/
def ReadAt (K : PySem.W.Frag) (H : Hp) (s : Addr) (z : Str) (k : Nat) : Prop := ∃ C dx, H s = some (.ins C dx [("text", .str z), ("at", .int (k : Int))]) ∧ IsC K "Reader" C
def hereS : List Nat → Str
  | [] => ""
  | c :: _ => ⟨#[c]⟩
def sp_Reader__init (K : PySem.W.Frag) : Sp := fun vs H Q _ => ∃ (s C dx : Addr) (z : Str), vs = [.ref s, .str z] ∧ H s = some (.ins C dx []) ∧ IsC K "Reader" C ∧ ∀ H1, ReadAt K H1 s z 0 → Fr [s] H H1 → Q .non H1
theorem ok_Reader__init (T : Top K mg) : FnOk P w K mg base CX0 1 T.a_Reader__init T.d_Reader__init ["self", "text"] (sp_Reader__init K) := by
  refine T.f_Reader__init.ok sc_Reader__init (fun vs H Q E h => ?_) (fun cdv A outer s H vs Q E hr h => ?_)
  · obtain ⟨s, C, dx, z, rfl, _⟩ := h
    rfl
  obtain ⟨s, C, dx, z, rfl, h⟩ := h
  refine ⟨_, (pss_cons (ps_fld (pv 0) (pv 1) rfl)
      (pss_one (ps_fld (pv 0) pe_int rfl))), ?_⟩
  try dsimp only [cxOf, Cx.nox, Cx.wish]
  simp only [L2.start, List.map_cons, List.map_nil, List.length_cons, List.length_nil, Nat.reduceAdd, Nat.reduceSub, List.replicate_succ, List.replicate_zero, List.cons_append, List.nil_append]
  obtain ⟨hs, hC, h⟩ := h
  obtain rfl := hC.one T.nc_Reader
  have c1 := T.cl_Reader
  have c2 := T.n_Reader_text
  have c3 := T.n_Reader_at
  walk_at "ws"
  exact h _ ⟨T.c_Reader, dx, by rw [upd_same]; rfl, hC⟩ ((Fr.put (List.mem_cons_self ..)).trans (Fr.put (List.mem_cons_self ..)))
theorem here_cut {z : Str} {k : Nat} (hk : k ≤ z.length) : cutS z (some (k : Int)) (some ((k : Int) + 1)) = hereS (z.cps.toList.drop k) := by
  have hl : z.cps.toList.length = z.length := Array.length_toList
  have e : cutS z (some (k : Int)) (some ((k : Int) + 1)) = ⟨((z.cps.toList.drop k).take 1).toArray⟩ := by
    rw [show (k : Int) + 1 = ((k + 1 : Nat) : Int) by omega]
    unfold cutS
    rw [HT.sIx_nat, HT.sIx_nat, Nat.min_eq_left hk]
    by_cases q : k + 1 ≤ z.length
    · rw [Nat.min_eq_left q, show k + 1 - k = 1 by omega]
    · have : k = z.length := by omega
      rw [Nat.min_eq_right (by omega), this, Nat.sub_self, List.drop_of_length_le (by omega)]
      rfl
  rw [e]
  cases z.cps.toList.drop k with
  | nil => rfl
  | cons c r => rfl
def sp_Reader_here (K : PySem.W.Frag) : Sp := fun vs H Q _ => ∃ (s : Addr) (z : Str) (k : Nat), vs = [.ref s] ∧ ReadAt K H s z k ∧ k ≤ z.length ∧ z.length ≤ 100000 ∧ Q (.str (hereS (z.cps.toList.drop k))) H
theorem ok_Reader_here (T : Top K mg) : FnOk P w K mg base CX0 1 T.a_Reader_here T.d_Reader_here ["self"] (sp_Reader_here K) := by
  refine T.f_Reader_here.ok sc_Reader_here (fun vs H Q E h => ?_) (fun cdv A outer s H vs Q E hr h => ?_)
  · obtain ⟨s, z, k, rfl, _⟩ := h
    rfl
  obtain ⟨s, z, k, rfl, h⟩ := h
  refine ⟨_, (pss_one (ps_ret (pe_slice sl_str (pe_fld (pv 0) rfl) (po_some (pe_fld (pv 0) rfl)) (po_some (pe_op op_add (pe_fld (pv 0) rfl) pe_int))))), ?_⟩
  try dsimp only [cxOf, Cx.nox, Cx.wish]
  simp only [L2.start, List.map_cons, List.map_nil, List.length_cons, List.length_nil, Nat.reduceAdd, Nat.reduceSub, List.replicate_succ, List.replicate_zero, List.cons_append, List.nil_append]
  obtain ⟨⟨C, dx, hs, hC⟩, hk, hz, h⟩ := h
  obtain rfl := hC.one T.nc_Reader
  have c1 := T.cl_Reader
  have c2 := T.n_Reader_text
  have c3 := T.n_Reader_at
  walk_at "ws"
  refine w_slS (by omega) ?_
  rw [here_cut hk]
  exact h

theorem cut_nat {z : Str} {k j : Nat} (hj : k + j ≤ z.length) : cutS z (some (k : Int)) (some ((k + j : Nat) : Int)) = ⟨((z.cps.toList.drop k).take j).toArray⟩ := by
  unfold cutS
  rw [HT.sIx_nat, HT.sIx_nat, Nat.min_eq_left hj, Nat.min_eq_left (show k ≤ z.length by omega), show k + j - k = j by omega]
def sp_Reader_run_of (K : PySem.W.Frag) : Sp := fun vs H Q _ => ∃ (s : Addr) (z ss : Str) (k : Nat), vs = [.ref s, .str ss] ∧ ReadAt K H s z k ∧ k ≤ z.length ∧ z.length ≤ 100000 ∧ ∀ H', ReadAt K H' s z (k + runN ss.cps.toList (z.cps.toList.drop k)) → Fr [s] H H' → Q (.str ⟨((z.cps.toList.drop k).take (runN ss.cps.toList (z.cps.toList.drop k))).toArray⟩) H'
theorem ok_Reader_run_of (T : Top K mg) : FnOk P w K mg base CX0 2 T.a_Reader_run_of T.d_Reader_run_of ["self", "signs"] (sp_Reader_run_of K) := by
  refine T.f_Reader_run_of.ok sc_Reader_run_of (fun vs H Q E h => ?_) (fun cdv A outer s H vs Q E hr h => ?_)
  · obtain ⟨s, z, ss, k, rfl, _⟩ := h
    rfl
  obtain ⟨s, z, ss, k, rfl, h⟩ := h
  refine ⟨_, (pss_cons (ps_set (i := 2) sc_Reader_run_of.nd rfl (.inl rfl) (pe_fld (pv 0) rfl))
      (pss_cons (ps_while PassesOwn.never (PW.pt (pw_and (pt_cmpR op_ne (pe_meth0 (pv 0) T.cl_Reader T.m_Reader_here (ok_Reader_here T) (hr.mono (by decide)) T.b_Reader_here .nil pass0) pe_str (nomark _)) (pw_and1 (pt_cmpR op_in_sign (pe_meth0 (pv 0) T.cl_Reader T.m_Reader_here (ok_Reader_here T) (hr.mono (by decide)) T.b_Reader_here .nil pass0) (pv 1) rfl))))
      (pss_one (ps_fldaug (pv 0) pe_int in_add)))
      (pss_one (ps_ret (pe_slice sl_str (pe_fld (pv 0) rfl) (po_some (pv 2)) (po_some (pe_fld (pv 0) rfl))))))), ?_⟩
  try dsimp only [cxOf, Cx.nox, Cx.wish]
  simp only [L2.start, List.map_cons, List.map_nil, List.length_cons, List.length_nil, Nat.reduceAdd, Nat.reduceSub, List.replicate_succ, List.replicate_zero, List.cons_append, List.nil_append]
  obtain ⟨ha, hk, hz, h⟩ := h
  have c1 := T.cl_Reader
  have c2 := T.n_Reader_text
  have c3 := T.n_Reader_at
  obtain ⟨C, dx, hs, hC⟩ := id ha
  obtain rfl := hC.one T.nc_Reader
  have hzl : z.cps.toList.length = z.length := Array.length_toList
  walk_at "ws"
  refine ⟨fun m σ' G => ∃ j : Nat, σ' = [some (.ref s), some (.str ss), some (.int (k : Int))] ∧ k + j ≤ z.length ∧ runN ss.cps.toList (z.cps.toList.drop k) = j + runN ss.cps.toList (z.cps.toList.drop (k + j)) ∧ ReadAt K G s z (k + j) ∧ Fr [s] H G ∧ m = z.length - (k + j), ⟨_, 0, rfl, hk, (Nat.zero_add _).symm, ha, Fr.refl, rfl⟩, fun m σ' G q => ?_⟩
  obtain ⟨j, rfl, hj, hrun, haG, fG, rfl⟩ := q
  obtain ⟨C, dx, hsG, hCG⟩ := id haG
  obtain rfl := hCG.one T.nc_Reader
  walk_at "ws"
  refine ⟨s, z, k + j, rfl, haG, hj, hz, ?_⟩
  have nin : ∀ c : Nat, (hereS [c]).length = 1 := fun c => rfl
  cases hd : z.cps.toList.drop (k + j) with
  | nil =>
    walk_at "ws"
    refine w_slS (by omega) ?_
    rw [cut_nat hj]
    have hr : runN ss.cps.toList (z.cps.toList.drop k) = j := by rw [hrun, hd]; rfl
    rw [hr] at h
    exact h G haG fG
  | cons c r =>
    have hdl : k + j < z.length := by
      have := congrArg List.length hd
      rw [List.length_drop, List.length_cons] at this
      omega
    have hd1 : z.cps.toList.drop (k + (j + 1)) = r := by
      rw [show k + (j + 1) = (k + j) + 1 by omega, ← List.drop_drop, hd]
      rfl
    walk_at "ws"
    · refine ⟨s, z, k + j, rfl, haG, hj, hz, ?_⟩
      rw [hd]
      walk_at "ws"
      refine ⟨c, ss, rfl, rfl, ?_⟩
      by_cases hc : c ∈ ss.cps.toList
      · rw [decide_eq_true hc]
        refine ⟨_, rfl, ?_⟩
        rw [if_pos rfl]
        refine ⟨fun σ' H' => ∃ m', m' < z.length - (k + j) ∧ _, fun _ _ z => z, ?_⟩
        walk_at "ws"
        refine ⟨z.length - (k + (j + 1)), by omega, j + 1, rfl, by omega, ?_, ⟨T.c_Reader, dx, ?_, hCG⟩, fG.trans (Fr.put (List.mem_cons_self ..)), rfl⟩
        · rw [hrun, hd, hd1]
          show j + (if c ∈ ss.cps.toList then runN ss.cps.toList r + 1 else 0) = _
          rw [if_pos hc]
          omega
        · rw [upd_same, show ((k + (j + 1) : Nat) : Int) = ((k + j : Nat) : Int) + 1 by omega]
          rfl
      · rw [decide_eq_false hc]
        refine ⟨_, rfl, ?_⟩
        rw [if_neg (by decide)]
        walk_at "ws"
        refine w_slS (by omega) ?_
        rw [cut_nat hj]
        have hr : runN ss.cps.toList (z.cps.toList.drop k) = j := by
          rw [hrun, hd]
          unfold runN
          rw [if_neg hc]
          rfl
        rw [hr] at h
        exact h G haG fG
    · rename_i e
      exact Nat.noConfusion (show 1 = 0 from congrArg Str.length e)

/-! total, product, piece walked -/
def RdP (K : PySem.W.Frag) (res : Pr) (s : Addr) (z : Str) (H : Hp) (Q : VK) (E : XK) : Prop := match res with
  | .out => False
  | .no => ∀ C H', IsC K "NoFormula" C → Fr [s] H H' → E (.ref C) none H'
  | .ok f r => ∀ p H', FmAt H' p f → r.length ≤ z.length → z.cps.toList.drop (z.length - r.length) = r → ReadAt K H' s z (z.length - r.length) → Fr [s] H H' → Q (.ref p) H'
def sp_Reader_total (K : PySem.W.Frag) (n : Nat) : Sp := fun vs H Q E => ∃ (s : Addr) (z : Str) (k : Nat), vs = [.ref s] ∧ ReadAt K H s z k ∧ k ≤ z.length ∧ z.length ≤ 100000 ∧ RdP K ((parseN n).1 (z.cps.toList.drop k)) s z H Q E
def sp_Reader_product (K : PySem.W.Frag) (n : Nat) : Sp := fun vs H Q E => ∃ (s : Addr) (z : Str) (k : Nat), vs = [.ref s] ∧ ReadAt K H s z k ∧ k ≤ z.length ∧ z.length ≤ 100000 ∧ RdP K ((parseN n).2.1 (z.cps.toList.drop k)) s z H Q E
def sp_Reader_piece (K : PySem.W.Frag) (n : Nat) : Sp := fun vs H Q E => ∃ (s : Addr) (z : Str) (k : Nat), vs = [.ref s] ∧ ReadAt K H s z k ∧ k ≤ z.length ∧ z.length ≤ 100000 ∧ RdP K ((parseN n).2.2 (z.cps.toList.drop k)) s z H Q E
theorem no_Reader_total {vs : List V} {H : Hp} {Q : VK} {E : XK} (h : sp_Reader_total K 0 vs H Q E) : False := by
  obtain ⟨s, z, k, _, _, _, _, h⟩ := h
  exact h
theorem no_Reader_product {vs : List V} {H : Hp} {Q : VK} {E : XK} (h : sp_Reader_product K 0 vs H Q E) : False := by
  obtain ⟨s, z, k, _, _, _, _, h⟩ := h
  exact h
theorem no_Reader_piece {vs : List V} {H : Hp} {Q : VK} {E : XK} (h : sp_Reader_piece K 0 vs H Q E) : False := by
  obtain ⟨s, z, k, _, _, _, _, h⟩ := h
  exact h
theorem use_here {s : Addr} {z : Str} {k : Nat} {cs : List Nat} {H : Hp} {Q : VK} {E : XK} (ha : ReadAt K H s z k) (hk : k ≤ z.length) (hz : z.length ≤ 100000) (e : z.cps.toList.drop k = cs) (q : Q (.str (hereS cs)) H) : sp_Reader_here K ([.ref s] ++ []) H Q E :=
  ⟨s, z, k, rfl, ha, hk, hz, by rw [e]; exact q⟩
theorem here_cps (cs : List Nat) : (hereS cs).cps.toList = cs.take 1 := by
  cases cs with
  | nil => decide +kernel
  | cons c r => rfl
theorem here_is {cs : List Nat} {x : Str} {d : Nat} (hx : x.cps.toList = [d]) (h : hereS cs = x) : ∃ r, cs = d :: r := by
  have e := here_cps cs
  rw [h, hx] at e
  cases cs with
  | nil => cases e
  | cons c r =>
    rw [List.take_succ_cons, List.take_zero] at e
    rw [(List.cons.inj e).1]
    exact ⟨r, rfl⟩
theorem here_not {cs : List Nat} {x : Str} {d : Nat} (hx : x = ⟨#[d]⟩) (h : hereS cs ≠ x) : cs.head? ≠ some d := by
  intro e
  cases cs with
  | nil => cases e
  | cons c r =>
    cases e
    exact h (by rw [hx]; rfl)
theorem drop_next {xs r : List Nat} {c k : Nat} (h : xs.drop k = c :: r) : xs.drop (k + 1) = r := by
  rw [← List.drop_drop, h]
  rfl
theorem RdP.fr {res : Pr} {s : Addr} {z : Str} {H G : Hp} {Q : VK} {E : XK} (h : RdP K res s z H Q E) (f : Fr [s] H G) : RdP K res s z G Q E := by
  cases res with
  | out => exact h
  | no => exact fun C H' c f' => h C H' c (f.trans f')
  | ok g r => exact fun p H' a b c d f' => h p H' a b c d (f.trans f')
theorem FmAt.frs {H G : Hp} {s p : Addr} {f : Fm} {C dx : Addr} {fs : List (Str × V)} (hs : H s = some (.ins C dx fs)) (fr : Fr [s] H G) (h : FmAt H p f) : FmAt G p f := h.keep fun q xs e => fr q _ e fun m => by
  rw [List.mem_singleton.mp m, hs] at e
  cases e
theorem ReadAt.ins {H : Hp} {s : Addr} {z : Str} {k : Nat} (h : ReadAt K H s z k) : ∃ C dx fs, H s = some (.ins C dx fs) := by
  obtain ⟨C, dx, e, _⟩ := h
  exact ⟨_, _, _, e⟩
theorem ReadAt.step {H : Hp} {s C dx : Addr} {z : Str} {k : Nat} (hC : IsC K "Reader" C) : ReadAt K (upd H s (.ins C dx (putF "at" (.int ((k : Int) + 1)) [("text", .str z), ("at", .int (k : Int))]))) s z (k + 1) :=
  ⟨C, dx, by rw [upd_same, show ((k + 1 : Nat) : Int) = (k : Int) + 1 by omega]; rfl, hC⟩
theorem rec_Reader_product (T : Top K mg) (n : Nat) (ih_Reader_total : FnOk P w K mg base (L2.CX P w) (3 + n) T.a_Reader_total T.d_Reader_total ["self"] (sp_Reader_total K n)) (ih_Reader_product : FnOk P w K mg base (L2.CX P w) (3 + n) T.a_Reader_product T.d_Reader_product ["self"] (sp_Reader_product K n)) (ih_Reader_piece : FnOk P w K mg base (L2.CX P w) (3 + n) T.a_Reader_piece T.d_Reader_piece ["self"] (sp_Reader_piece K n)) : FnOk P w K mg base (L2.CX P w) (3 + n + 1) T.a_Reader_product T.d_Reader_product ["self"] (sp_Reader_product K (n + 1)) := by
  refine T.f_Reader_product.okX sc_Reader_product (fun vs H Q E h => ?_) (fun cdv A outer s H vs Q E hr h => ?_)
  · obtain ⟨s, z, k, rfl, _⟩ := h
    rfl
  obtain ⟨s, z, k, rfl, h⟩ := h
  refine ⟨_, (pss_cons (ps_set (i := 1) sc_Reader_product.nd rfl (.inl rfl) (pe_meth0 (pv 0) T.cl_Reader T.m_Reader_piece ih_Reader_piece (hr.mono (by omega)) T.b_Reader_piece .nil (passes_call (takes_of rfl rfl rfl rfl) (fun _ _ _ _ z => z))))
      (pss_cons (ps_while (passes_of rfl) (pt_cmpR op_eq (pe_meth0 (pv 0) T.cl_Reader T.m_Reader_here (ok_Reader_here T) (hr.mono (by omega)) T.b_Reader_here .nil pass0) pe_str (nomark _))
      (pss_cons (ps_fldaug (pv 0) pe_int in_add)
      (pss_one (ps_set (i := 1) sc_Reader_product.nd rfl (.inl rfl) (pe_tup (pa_cons pe_str (pa_cons (pv 1) (pa_cons (pe_meth0 (pv 0) T.cl_Reader T.m_Reader_piece ih_Reader_piece (hr.mono (by omega)) T.b_Reader_piece .nil (passes_call (takes_of rfl rfl rfl rfl) (fun _ _ _ _ z => z))) pa_nil))))))))
      (pss_one (ps_ret (pv 1))))), ?_⟩
  try dsimp only [cxOf, Cx.nox, Cx.wish]
  simp only [L2.start, List.map_cons, List.map_nil, List.length_cons, List.length_nil, Nat.reduceAdd, Nat.reduceSub, List.replicate_succ, List.replicate_zero, List.cons_append, List.nil_append]
  obtain ⟨ha, hk, hz, h⟩ := h
  have c1 := T.cl_Reader
  have c2 := T.n_Reader_text
  have c3 := T.n_Reader_at
  have hzl : z.cps.toList.length = z.length := Array.length_toList
  obtain ⟨C, dx, hs, hC⟩ := id ha
  obtain rfl := hC.one T.nc_Reader
  walk_at "ws"
  refine ⟨s, z, k, rfl, ha, hk, hz, ?_⟩
  have h : RdP K (prodF (parseN n).2.2 (z.cps.toList.drop k)) s z H Q E := h
  unfold prodF at h
  cases e : (parseN n).2.2 (z.cps.toList.drop k) with
  | out => rw [e] at h; exact h.elim
  | no => rw [e] at h; exact h
  | ok f r =>
    rw [e] at h
    intro p H1 hf hr hd ha1 f1
    walk_at "ws"
    refine ⟨fun m σ' G => ∃ (g : Fm) (q : Addr) (r' : List Nat) (j : Nat), σ' = [some (.ref s), some (.ref q)] ∧ FmAt G q g ∧ r'.length ≤ z.length ∧ z.cps.toList.drop (z.length - r'.length) = r' ∧ ReadAt K G s z (z.length - r'.length) ∧ Fr [s] H G ∧ r'.length ≤ j ∧ RdP K (timesF (parseN n).2.2 j g r') s z H Q E ∧ m = r'.length,
      ⟨_, f, p, r, _, rfl, hf, hr, hd, ha1, f1, Nat.le_refl _, h, rfl⟩, fun m σ' G q => ?_⟩
    obtain ⟨g, q, r', j, rfl, hg, hr', hd', haG, fG, hj, hG, rfl⟩ := q
    obtain ⟨C, dx, hsG, hCG⟩ := id haG
    obtain rfl := hCG.one T.nc_Reader
    walk_at "ws"
    refine use_here haG (by omega) hz hd' ?_
    walk_at "ws"
    · rename_i e1
      obtain ⟨r2, rfl⟩ := here_is (d := 42) (by decide +kernel) e1
      obtain ⟨j, rfl⟩ : ∃ i, j = i + 1 := ⟨j - 1, by rw [List.length_cons] at hj; omega⟩
      rw [timesF_go] at hG
      rw [List.length_cons] at hr' hd' hj
      have hd2 := drop_next hd'
      have ek : z.length - (r2.length + 1) + 1 = z.length - r2.length := by omega
      rw [ek] at hd2
      refine ⟨fun σ' H' => ∃ m', m' < (42 :: r2).length ∧ _, fun _ _ z => z, ?_⟩
      walk_at "ws"
      have ha2 := ReadAt.step (K := K) (H := G) (s := s) (z := z) (dx := dx) (k := z.length - (r2.length + 1)) hCG
      rw [ek] at ha2
      refine ⟨s, z, z.length - r2.length, rfl, ha2, by omega, hz, ?_⟩
      have f2 : Fr [s] H (upd G s (.ins T.c_Reader dx (putF "at" (.int (((z.length - (r2.length + 1) : Nat) : Int) + 1)) [("text", .str z), ("at", .int ((z.length - (r2.length + 1) : Nat) : Int))]))) := fG.trans (Fr.put (List.mem_cons_self ..))
      rw [hd2]
      cases e2 : (parseN n).2.2 r2 with
      | out => rw [e2] at hG; exact hG.elim
      | no => rw [e2] at hG; exact fun C H' c f' => hG C H' c (f2.trans f')
      | ok g2 r3 =>
        rw [e2] at hG
        intro p2 H2 hf2 hr3 hd3 ha3 f3
        have hg2 := hg.frs hsG ((Fr.put (List.mem_cons_self ..)).trans f3)
        obtain ⟨pre, hpre, _⟩ := (parse_sound n).2.2 _ _ _ e2
        have hl3 : r3.length ≤ r2.length := by rw [hpre, List.length_append]; omega
        walk_at "ws"
        rename_i p3 H3 n3 s3 e3
        refine ⟨r3.length, by rw [List.length_cons]; omega, .times g g2, _, r3, j, rfl, ⟨q, p2, e3, hg2.same s3, hf2.same s3⟩, hr3, hd3, ?_, (f2.trans f3).trans (Fr.of s3), by omega, hG, rfl⟩
        obtain ⟨C, dx, e4, h4⟩ := ha3
        exact ⟨C, dx, s3 _ _ e4, h4⟩
    · rename_i e1
      rw [timesF_stop (here_not (d := 42) (by decide +kernel) e1)] at hG
      walk_at "ws"
      exact hG q G hg hr' hd' haG fG
theorem rec_Reader_total (T : Top K mg) (n : Nat) (ih_Reader_total : FnOk P w K mg base (L2.CX P w) (3 + n) T.a_Reader_total T.d_Reader_total ["self"] (sp_Reader_total K n)) (ih_Reader_product : FnOk P w K mg base (L2.CX P w) (3 + n) T.a_Reader_product T.d_Reader_product ["self"] (sp_Reader_product K n)) (ih_Reader_piece : FnOk P w K mg base (L2.CX P w) (3 + n) T.a_Reader_piece T.d_Reader_piece ["self"] (sp_Reader_piece K n)) : FnOk P w K mg base (L2.CX P w) (3 + n + 1) T.a_Reader_total T.d_Reader_total ["self"] (sp_Reader_total K (n + 1)) := by
  refine T.f_Reader_total.okX sc_Reader_total (fun vs H Q E h => ?_) (fun cdv A outer s H vs Q E hr h => ?_)
  · obtain ⟨s, z, k, rfl, _⟩ := h
    rfl
  obtain ⟨s, z, k, rfl, h⟩ := h
  refine ⟨_, (pss_cons (ps_set (i := 1) sc_Reader_total.nd rfl (.inl rfl) (pe_meth0 (pv 0) T.cl_Reader T.m_Reader_product ih_Reader_product (hr.mono (by omega)) T.b_Reader_product .nil (passes_call (takes_of rfl rfl rfl rfl) (fun _ _ _ _ z => z))))
      (pss_cons (ps_while (passes_of rfl) (PW.pt (pw_or (pt_cmpR op_eq (pe_meth0 (pv 0) T.cl_Reader T.m_Reader_here (ok_Reader_here T) (hr.mono (by omega)) T.b_Reader_here .nil pass0) pe_str (nomark _)) (pw_or1 (pt_cmpR op_eq (pe_meth0 (pv 0) T.cl_Reader T.m_Reader_here (ok_Reader_here T) (hr.mono (by omega)) T.b_Reader_here .nil pass0) pe_str (nomark _)))))
      (pss_cons (ps_set (i := 2) sc_Reader_total.nd rfl (.inl rfl) pe_str)
      (pss_cons (ps_if (pt_cmpR op_eq (pe_meth0 (pv 0) T.cl_Reader T.m_Reader_here (ok_Reader_here T) (hr.mono (by omega)) T.b_Reader_here .nil pass0) pe_str (nomark _)) (pss_one (ps_set (i := 2) sc_Reader_total.nd rfl (.inl rfl) pe_str)) pss_nil)
      (pss_cons (ps_fldaug (pv 0) pe_int in_add)
      (pss_one (ps_set (i := 1) sc_Reader_total.nd rfl (.inl rfl) (pe_tup (pa_cons (pv 2) (pa_cons (pv 1) (pa_cons (pe_meth0 (pv 0) T.cl_Reader T.m_Reader_product ih_Reader_product (hr.mono (by omega)) T.b_Reader_product .nil (passes_call (takes_of rfl rfl rfl rfl) (fun _ _ _ _ z => z))) pa_nil))))))))))
      (pss_one (ps_ret (pv 1))))), ?_⟩
  try dsimp only [cxOf, Cx.nox, Cx.wish]
  simp only [L2.start, List.map_cons, List.map_nil, List.length_cons, List.length_nil, Nat.reduceAdd, Nat.reduceSub, List.replicate_succ, List.replicate_zero, List.cons_append, List.nil_append]
  obtain ⟨ha, hk, hz, h⟩ := h
  have c1 := T.cl_Reader
  have c2 := T.n_Reader_text
  have c3 := T.n_Reader_at
  have hzl : z.cps.toList.length = z.length := Array.length_toList
  obtain ⟨C, dx, hs, hC⟩ := id ha
  obtain rfl := hC.one T.nc_Reader
  walk_at "ws"
  refine ⟨s, z, k, rfl, ha, hk, hz, ?_⟩
  have h : RdP K (totF (parseN n).2.1 (z.cps.toList.drop k)) s z H Q E := h
  unfold totF at h
  cases e : (parseN n).2.1 (z.cps.toList.drop k) with
  | out => rw [e] at h; exact h.elim
  | no => rw [e] at h; exact h
  | ok f r =>
    rw [e] at h
    intro p H1 hf hr hd ha1 f1
    walk_at "ws"
    refine ⟨fun m σ' G => ∃ (g : Fm) (q : Addr) (r' : List Nat) (j : Nat) (y : Option V), σ' = [some (.ref s), some (.ref q), y] ∧ FmAt G q g ∧ r'.length ≤ z.length ∧ z.cps.toList.drop (z.length - r'.length) = r' ∧ ReadAt K G s z (z.length - r'.length) ∧ Fr [s] H G ∧ r'.length ≤ j ∧ RdP K (sumsF (parseN n).2.1 j g r') s z H Q E ∧ m = r'.length,
      ⟨_, f, p, r, _, _, rfl, hf, hr, hd, ha1, f1, Nat.le_refl _, h, rfl⟩, fun m σ' G q => ?_⟩
    obtain ⟨g, q, r', j, y, rfl, hg, hr', hd', haG, fG, hj, hG, rfl⟩ := q
    obtain ⟨C, dx, hsG, hCG⟩ := id haG
    obtain rfl := hCG.one T.nc_Reader
    walk_at "ws"
    refine use_here haG (by omega) hz hd' ?_
    walk_at "ws"
    · rename_i e1
      obtain ⟨r2, rfl⟩ := here_is (d := 43) (by decide +kernel) e1
      obtain ⟨j, rfl⟩ : ∃ i, j = i + 1 := ⟨j - 1, by rw [List.length_cons] at hj; omega⟩
      rw [sumsF_plus] at hG
      rw [List.length_cons] at hr' hd' hj
      have hd2 := drop_next hd'
      have ek : z.length - (r2.length + 1) + 1 = z.length - r2.length := by omega
      rw [ek] at hd2
      refine ⟨fun σ' H' => ∃ m', m' < (43 :: r2).length ∧ _, fun _ _ z => z, ?_⟩
      walk_at "ws"
      refine use_here haG (by omega) hz hd' ?_
      walk_at "ws"
      · rename_i e9
        obtain ⟨r9, e9⟩ := here_is (d := 45) (by decide +kernel) e9
        cases e9
      have ha2 := ReadAt.step (K := K) (H := G) (s := s) (z := z) (dx := dx) (k := z.length - (r2.length + 1)) hCG
      rw [ek] at ha2
      refine ⟨s, z, z.length - r2.length, rfl, ha2, by omega, hz, ?_⟩
      have f2 : Fr [s] H (upd G s (.ins T.c_Reader dx (putF "at" (.int (((z.length - (r2.length + 1) : Nat) : Int) + 1)) [("text", .str z), ("at", .int ((z.length - (r2.length + 1) : Nat) : Int))]))) := fG.trans (Fr.put (List.mem_cons_self ..))
      rw [hd2]
      cases e2 : (parseN n).2.1 r2 with
      | out => rw [e2] at hG; exact hG.elim
      | no => rw [e2] at hG; exact fun C H' c f' => hG C H' c (f2.trans f')
      | ok g2 r3 =>
        rw [e2] at hG
        intro p2 H2 hf2 hr3 hd3 ha3 f3
        have hg2 := hg.frs hsG ((Fr.put (List.mem_cons_self ..)).trans f3)
        obtain ⟨pre, hpre, _⟩ := (parse_sound n).2.1 _ _ _ e2
        have hl3 : r3.length ≤ r2.length := by rw [hpre, List.length_append]; omega
        walk_at "ws"
        rename_i p3 H3 n3 s3 e3
        refine ⟨r3.length, by rw [List.length_cons]; omega, .plus g g2, _, r3, j, _, rfl, ⟨q, p2, e3, hg2.same s3, hf2.same s3⟩, hr3, hd3, ?_, (f2.trans f3).trans (Fr.of s3), by omega, hG, rfl⟩
        obtain ⟨C, dx, e4, h4⟩ := ha3
        exact ⟨C, dx, s3 _ _ e4, h4⟩
    · rename_i e0
      refine use_here haG (by omega) hz hd' ?_
      walk_at "ws"
      · rename_i e1
        obtain ⟨r2, rfl⟩ := here_is (d := 45) (by decide +kernel) e1
        obtain ⟨j, rfl⟩ : ∃ i, j = i + 1 := ⟨j - 1, by rw [List.length_cons] at hj; omega⟩
        rw [sumsF_less] at hG
        rw [List.length_cons] at hr' hd' hj
        have hd2 := drop_next hd'
        have ek : z.length - (r2.length + 1) + 1 = z.length - r2.length := by omega
        rw [ek] at hd2
        refine ⟨fun σ' H' => ∃ m', m' < (45 :: r2).length ∧ _, fun _ _ z => z, ?_⟩
        walk_at "ws"
        refine use_here haG (by omega) hz hd' ?_
        walk_at "ws"
        rotate_left
        · rename_i e9
          exact absurd rfl (here_not (d := 45) (by decide +kernel) e9)
        have ha2 := ReadAt.step (K := K) (H := G) (s := s) (z := z) (dx := dx) (k := z.length - (r2.length + 1)) hCG
        rw [ek] at ha2
        refine ⟨s, z, z.length - r2.length, rfl, ha2, by omega, hz, ?_⟩
        have f2 : Fr [s] H (upd G s (.ins T.c_Reader dx (putF "at" (.int (((z.length - (r2.length + 1) : Nat) : Int) + 1)) [("text", .str z), ("at", .int ((z.length - (r2.length + 1) : Nat) : Int))]))) := fG.trans (Fr.put (List.mem_cons_self ..))
        rw [hd2]
        cases e2 : (parseN n).2.1 r2 with
        | out => rw [e2] at hG; exact hG.elim
        | no => rw [e2] at hG; exact fun C H' c f' => hG C H' c (f2.trans f')
        | ok g2 r3 =>
          rw [e2] at hG
          intro p2 H2 hf2 hr3 hd3 ha3 f3
          have hg2 := hg.frs hsG ((Fr.put (List.mem_cons_self ..)).trans f3)
          obtain ⟨pre, hpre, _⟩ := (parse_sound n).2.1 _ _ _ e2
          have hl3 : r3.length ≤ r2.length := by rw [hpre, List.length_append]; omega
          walk_at "ws"
          rename_i p3 H3 n3 s3 e3
          refine ⟨r3.length, by rw [List.length_cons]; omega, .less g g2, _, r3, j, _, rfl, ⟨q, p2, e3, hg2.same s3, hf2.same s3⟩, hr3, hd3, ?_, (f2.trans f3).trans (Fr.of s3), by omega, hG, rfl⟩
          obtain ⟨C, dx, e4, h4⟩ := ha3
          exact ⟨C, dx, s3 _ _ e4, h4⟩
      · rename_i e1
        rw [sumsF_stop (here_not (d := 43) (by decide +kernel) e0) (here_not (d := 45) (by decide +kernel) e1)] at hG
        walk_at "ws"
        exact hG q G hg hr' hd' haG fG
theorem rec_Reader_piece (T : Top K mg) (n : Nat) (ih_Reader_total : FnOk P w K mg base (L2.CX P w) (3 + n) T.a_Reader_total T.d_Reader_total ["self"] (sp_Reader_total K n)) (ih_Reader_product : FnOk P w K mg base (L2.CX P w) (3 + n) T.a_Reader_product T.d_Reader_product ["self"] (sp_Reader_product K n)) (ih_Reader_piece : FnOk P w K mg base (L2.CX P w) (3 + n) T.a_Reader_piece T.d_Reader_piece ["self"] (sp_Reader_piece K n)) : FnOk P w K mg base (L2.CX P w) (3 + n + 1) T.a_Reader_piece T.d_Reader_piece ["self"] (sp_Reader_piece K (n + 1)) := by
  refine T.f_Reader_piece.okX sc_Reader_piece (fun vs H Q E h => ?_) (fun cdv A outer s H vs Q E hr h => ?_)
  · obtain ⟨s, z, k, rfl, _⟩ := h
    rfl
  obtain ⟨s, z, k, rfl, h⟩ := h
  refine ⟨_, (pss_cons (ps_if (pt_cmpR op_eq (pe_meth0 (pv 0) T.cl_Reader T.m_Reader_here (ok_Reader_here T) (hr.mono (by omega)) T.b_Reader_here .nil pass0) pe_str (nomark _)) (pss_cons (ps_fldaug (pv 0) pe_int in_add)
      (pss_one (ps_ret (pe_tup (pa_cons pe_str (pa_cons (pe_meth0 (pv 0) T.cl_Reader T.m_Reader_piece ih_Reader_piece (hr.mono (by omega)) T.b_Reader_piece .nil (passes_call (takes_of rfl rfl rfl rfl) (fun _ _ _ _ z => z))) pa_nil)))))) pss_nil)
      (pss_cons (ps_if (pt_cmpR op_eq (pe_meth0 (pv 0) T.cl_Reader T.m_Reader_here (ok_Reader_here T) (hr.mono (by omega)) T.b_Reader_here .nil pass0) pe_str (nomark _)) (pss_cons (ps_fldaug (pv 0) pe_int in_add)
      (pss_cons (ps_set (i := 1) sc_Reader_piece.nd rfl (.inl rfl) (pe_meth0 (pv 0) T.cl_Reader T.m_Reader_total ih_Reader_total (hr.mono (by omega)) T.b_Reader_total .nil (passes_call (takes_of rfl rfl rfl rfl) (fun _ _ _ _ z => z))))
      (pss_cons (ps_if (pt_cmpR op_ne (pe_meth0 (pv 0) T.cl_Reader T.m_Reader_here (ok_Reader_here T) (hr.mono (by omega)) T.b_Reader_here .nil pass0) pe_str (nomark _)) (pss_one (ps_raise rfl (takes_of rfl rfl rfl rfl) (pmk_own PySem.F.excBase_ValueError T.x_NoFormula T.gc_NoFormula T.kc_NoFormula (raises_own T.xb_NoFormula T.xt_NoFormula) (by rfl)))) pss_nil)
      (pss_cons (ps_fldaug (pv 0) pe_int in_add)
      (pss_one (ps_ret (pv 1))))))) pss_nil)
      (pss_cons (ps_set (i := 2) sc_Reader_piece.nd rfl (.inl rfl) (pe_meth (pv 0) T.cl_Reader T.m_Reader_run_of (ok_Reader_run_of T) (hr.mono (by omega)) T.b_Reader_run_of .nil pass0 (pa_cons (pe_glob (v := V.str "abcdefghijklmnopqrstuvwxyz") (by rfl) T.g_SMALL ⟨_, rfl⟩) pa_nil)))
      (Evl.pss_cut (ps_if (pt_chain op_lt op_lt pe_int (pe_callB c_lenS (by rfl) T.z_len PySem.boot_len (pa_cons (pv 2) pa_nil)) pe_int) (pss_one (ps_ret (pe_tup (pa_cons pe_str (pa_cons (pv 2) pa_nil))))) pss_nil)
      (pss_cons (ps_set (i := 3) sc_Reader_piece.nd rfl (.inl rfl) (pe_meth (pv 0) T.cl_Reader T.m_Reader_run_of (ok_Reader_run_of T) (hr.mono (by omega)) T.b_Reader_run_of .nil pass0 (pa_cons (pe_glob (v := V.str "0123456789") (by rfl) T.g_FIGURES ⟨_, rfl⟩) pa_nil)))
      (Evl.pss_cut (ps_if (PW.pt (pw_or (pt_cmpR op_ne (pv 2) pe_str (nomark _)) (pw_or1 (pt_not (pt_chain op_lt op_lt pe_int (pe_callB c_lenS (by rfl) T.z_len PySem.boot_len (pa_cons (pv 3) pa_nil)) pe_int))))) (pss_one (ps_raise rfl (takes_of rfl rfl rfl rfl) (pmk_own PySem.F.excBase_ValueError T.x_NoFormula T.gc_NoFormula T.kc_NoFormula (raises_own T.xb_NoFormula T.xt_NoFormula) (by rfl)))) pss_nil)
      (Evl.pss_cut (ps_if (PW.pt (pw_or (PW.pt (pw_and (pt_cmpR op_eq (pe_ix ix_str (pv 3) pe_int (fun _ _ => rfl)) pe_str (nomark _)) (pw_and1 (pt_cmpR op_gt (pe_callB c_lenS (by rfl) T.z_len PySem.boot_len (pa_cons (pv 3) pa_nil)) pe_int (nomark _))))) (pw_or1 (pt_cmpR op_gt (pe_callTy c_intS (by rfl) T.z_int (by decide +kernel) (pa_cons (pv 3) pa_nil)) (pe_glob (v := V.int 1000000000000) (by rfl) T.g_MOST ⟨_, rfl⟩) (nomark _))))) (pss_one (ps_raise rfl (takes_of rfl rfl rfl rfl) (pmk_own PySem.F.excBase_ValueError T.x_NoFormula T.gc_NoFormula T.kc_NoFormula (raises_own T.xb_NoFormula T.xt_NoFormula) (by rfl)))) pss_nil)
      (pss_one (ps_ret (pe_tup (pa_cons pe_str (pa_cons (pe_callTy c_intS (by rfl) T.z_int (by decide +kernel) (pa_cons (pv 3) pa_nil)) pa_nil)))))))))))), ?_⟩
  try dsimp only [cxOf, Cx.nox, Cx.wish]
  simp only [L2.start, List.map_cons, List.map_nil, List.length_cons, List.length_nil, Nat.reduceAdd, Nat.reduceSub, List.replicate_succ, List.replicate_zero, List.cons_append, List.nil_append]
  obtain ⟨ha, hk, hz, h⟩ := h
  have c1 := T.cl_Reader
  have c2 := T.n_Reader_text
  have c3 := T.n_Reader_at
  have hzl : z.cps.toList.length = z.length := Array.length_toList
  obtain ⟨C, dx, hs, hC⟩ := id ha
  obtain rfl := hC.one T.nc_Reader
  walk_at "ws"
  have h : RdP K (pieceF (parseN n).1 (parseN n).2.2 (z.cps.toList.drop k)) s z H Q E := h
  obtain ⟨cs, hcs⟩ : ∃ cs, z.cps.toList.drop k = cs := ⟨_, rfl⟩
  rw [hcs] at h
  have hlc : cs.length = z.length - k := by rw [← hcs, List.length_drop, hzl]
  refine use_here ha hk hz hcs ?_
  walk_at "ws"
  · rename_i e1
    obtain ⟨r2, rfl⟩ := here_is (d := 45) (by decide +kernel) e1
    have hd2 := drop_next hcs
    rw [List.length_cons] at hlc
    have h : RdP K (match (parseN n).2.2 r2 with
      | .ok f r' => .ok (.turned f) r'
      | e => e) s z H Q E := h
    have ha2 := ReadAt.step (K := K) (H := H) (s := s) (z := z) (dx := dx) (k := k) hC
    refine ⟨s, z, k + 1, rfl, ha2, by omega, hz, ?_⟩
    have f2 : Fr [s] H (upd H s (.ins T.c_Reader dx (putF "at" (.int ((k : Int) + 1)) [("text", .str z), ("at", .int (k : Int))]))) := Fr.put (List.mem_cons_self ..)
    rw [hd2]
    cases e2 : (parseN n).2.2 r2 with
    | out => rw [e2] at h; exact h.elim
    | no => rw [e2] at h; exact fun C H' c f' => h C H' c (f2.trans f')
    | ok g r3 =>
      rw [e2] at h
      intro p2 H2 hf2 hr3 hd3 ha3 f3
      walk_at "ws"
      rename_i p3 H3 n3 s3 e3
      obtain ⟨C, dx, e4, h4⟩ := ha3
      exact h p3 H3 ⟨p2, e3, hf2.same s3⟩ hr3 hd3 ⟨C, dx, s3 _ _ e4, h4⟩ ((f2.trans f3).trans (Fr.of s3))
  · rename_i e0
    have ne45 := here_not (d := 45) (by decide +kernel) e0
    refine use_here ha hk hz hcs ?_
    walk_at "ws"
    · rename_i e1
      obtain ⟨r2, rfl⟩ := here_is (d := 40) (by decide +kernel) e1
      have hd2 := drop_next hcs
      rw [List.length_cons] at hlc
      have h : RdP K (match (parseN n).1 r2 with
        | .ok f (41 :: r') => .ok f r'
        | .ok _ _ => .no
        | e => e) s z H Q E := h
      have ha2 := ReadAt.step (K := K) (H := H) (s := s) (z := z) (dx := dx) (k := k) hC
      refine ⟨s, z, k + 1, rfl, ha2, by omega, hz, ?_⟩
      have f2 : Fr [s] H (upd H s (.ins T.c_Reader dx (putF "at" (.int ((k : Int) + 1)) [("text", .str z), ("at", .int (k : Int))]))) := Fr.put (List.mem_cons_self ..)
      rw [hd2]
      cases e2 : (parseN n).1 r2 with
      | out => rw [e2] at h; exact h.elim
      | no => rw [e2] at h; exact fun C H' c f' => h C H' c (f2.trans f')
      | ok g r3 =>
        rw [e2] at h
        intro p2 H2 hf2 hr3 hd3 ha3 f3
        obtain ⟨C, dx3, e4, h4⟩ := id ha3
        obtain rfl := h4.one T.nc_Reader
        walk_at "ws"
        refine use_here ha3 (by omega) hz hd3 ?_
        walk_at "ws"
        · rename_i e5
          have ne41 := here_not (d := 41) (by decide +kernel) e5
          have h : ∀ C H', IsC K "NoFormula" C → Fr [s] H H' → E (.ref C) none H' := by
            cases r3 with
            | nil => exact h
            | cons c r3 =>
              by_cases hc : c = 41
              · exact absurd (by rw [hc]; rfl) ne41
              · have e6 : (match Pr.ok g (c :: r3) with
                  | .ok f (41 :: r') => Pr.ok f r'
                  | .ok _ _ => .no
                  | e => e) = Pr.no := by
                  split
                  · rename_i e7
                    cases e7
                    exact absurd rfl hc
                  · rfl
                  · rename_i q
                    exact absurd rfl (q _ _)
                rw [e6] at h
                exact h
          exact h _ _ T.nc_NoFormula (f2.trans f3)
        · rename_i e5
          obtain ⟨r4, rfl⟩ := here_is (d := 41) (by decide +kernel) e5
          have h : ∀ p H', FmAt H' p g → r4.length ≤ z.length → z.cps.toList.drop (z.length - r4.length) = r4 → ReadAt K H' s z (z.length - r4.length) → Fr [s] H H' → Q (.ref p) H' := h
          rw [List.length_cons] at hr3 hd3
          have hd5 := drop_next hd3
          have ek : z.length - (r4.length + 1) + 1 = z.length - r4.length := by omega
          rw [ek] at hd5
          have ha5 := ReadAt.step (K := K) (H := H2) (s := s) (z := z) (dx := dx3) (k := z.length - (r4.length + 1)) h4
          rw [ek] at ha5
          exact h p2 _ (hf2.frs e4 (Fr.put (List.mem_cons_self ..))) (by omega) hd5 ha5 ((f2.trans f3).trans (Fr.put (List.mem_cons_self ..)))
    · rename_i e1
      have ne40 := here_not (d := 40) (by decide +kernel) e1
      rw [pieceF_leaf ne45 ne40] at h
      refine ⟨s, z, _, k, rfl, ha, hk, hz, ?_⟩
      rw [smallL_eq, hcs]
      intro H1 ha1 f1
      have la := runN_le smallL cs
      unfold leafF at h
      dsimp only at h
      generalize ea : runN smallL cs = a at *
      have nl : (⟨(cs.take a).toArray⟩ : Str).length = a := by
        show (cs.take a).length = a
        rw [List.length_take]
        omega
      generalize en : (⟨(cs.take a).toArray⟩ : Str) = nm at *
      have hk1 : k + a ≤ z.length := by omega
      obtain ⟨C, dx1, hs1, hC1⟩ := id ha1
      obtain rfl := hC1.one T.nc_Reader
      walk_at "ws"
      refine w_cut (fun σ' G => σ' = [some (.ref s), none, some (.str nm), none] ∧ G = H1 ∧ ¬ (0 < a ∧ a < 7)) ?_ fun σ' G k2 => ?_
      · walk_at "ws"
        · rename_i q1 q2 p H2 n2 s2 e2
          rw [if_pos (by omega)] at h
          have hd : (cs.drop a).length = cs.length - a := List.length_drop ..
          refine h p H2 e2 (by omega) ?_ ⟨T.c_Reader, dx1, by rw [show z.length - (cs.drop a).length = k + a by omega]; exact s2 _ _ hs1, hC1⟩ (f1.trans (Fr.of s2))
          rw [show z.length - (cs.drop a).length = k + a by omega, ← List.drop_drop, hcs]
        · exact ⟨rfl, rfl, by omega⟩
        · exact ⟨rfl, rfl, by omega⟩
      obtain ⟨rfl, rfl, hna⟩ := k2
      rw [if_neg hna] at h
      walk_at "ws"
      refine ⟨s, z, _, k + a, rfl, ha1, hk1, hz, ?_⟩
      rw [figL_eq, ← List.drop_drop, hcs]
      intro H2 ha2 f2
      have lb := runN_le figL (cs.drop a)
      have hdl : (cs.drop a).length = cs.length - a := List.length_drop ..
      generalize eb : runN figL (cs.drop a) = b at *
      have fl : (⟨((cs.drop a).take b).toArray⟩ : Str).length = b := by
        show ((cs.drop a).take b).length = b
        rw [List.length_take]
        omega
      have fcp : (⟨((cs.drop a).take b).toArray⟩ : Str).cps.toList = (cs.drop a).take b := rfl
      generalize ef : (⟨((cs.drop a).take b).toArray⟩ : Str) = fg at *
      obtain ⟨C, dx2, hs2, hC2⟩ := id ha2
      obtain rfl := hC2.one T.nc_Reader
      walk_at "ws"
      refine w_cut (fun σ' G => σ' = [some (.ref s), none, some (.str nm), some (.str fg)] ∧ G = H2 ∧ a = 0 ∧ 0 < b ∧ b < 14) ?_ fun σ' G k2 => ?_
      · walk_at "ws"
        · rename_i e
          have hne : a ≠ 0 := by
            intro a0
            subst a0
            exact e (by rw [← en]; rfl)
          rw [if_pos (.inl hne)] at h
          exact h _ _ T.nc_NoFormula (f1.trans f2)
        · rw [if_pos (.inr (by omega))] at h
          exact h _ _ T.nc_NoFormula (f1.trans f2)
        · rename_i e _ _
          have h0 : a = 0 := by
            rw [← nl, e]
            rfl
          exact ⟨rfl, rfl, h0, by omega, by omega⟩
        · rw [if_pos (.inr (by omega))] at h
          exact h _ _ T.nc_NoFormula (f1.trans f2)
      obtain ⟨rfl, rfl, rfl, hb0, hb14⟩ := k2
      rw [if_neg (by omega)] at h
      rw [List.drop_zero] at *
      have had : PySem.NumText.AllDigits fg.cps.toList := by
        intro c hc
        rw [fcp, ← eb] at hc
        exact fig_iff.mp (runN_mem figL cs c hc)
      have hne : fg.cps.toList ≠ [] := by
        intro z
        have := congrArg List.length z
        rw [← len_cps, fl, List.length_nil] at this
        omega
      have hit := PySem.intText_digits had hne (by omega)
      rw [← digF_eq had, fcp] at hit
      obtain ⟨c, cr, hcr⟩ : ∃ c cr, cs = c :: cr := by
        cases cs with
        | nil => rw [List.length_nil] at lb; omega
        | cons c cr => exact ⟨c, cr, rfl⟩
      have hat : atI fg.cps.toList 0 = some c := by
        rw [fcp, hcr]
        obtain ⟨b', rfl⟩ : ∃ x, b = x + 1 := ⟨b - 1, by omega⟩
        rw [List.take_succ_cons]
        show atI _ ((0 : Nat) : Int) = _
        exact atI_nat rfl
      have hh : cs.head? = some c := by rw [hcr]; rfl
      have hc0 : (⟨#[c]⟩ : Str) = Str.ofString "0" ↔ c = 48 := by
        rw [show Str.ofString "0" = ⟨#[48]⟩ by decide +kernel]
        exact ⟨fun z => (List.cons.inj (congrArg (fun s : Str => s.cps.toList) z)).1, fun z => by rw [z]⟩
      rw [hh] at h
      refine w_cut (fun σ' G' => σ' = [some (.ref s), none, some (.str nm), some (.str fg)] ∧ G' = G ∧ ¬ (some c = some 48 ∧ 1 < b ∨ 1000000000000 < digF (List.take b cs))) ?_ fun σ' G' k2 => ?_
      · walk_at "ws"
        refine w_ixS (by omega) hat ?_
        walk_at "ws"
        · rename_i e _
          rw [if_pos (.inl ⟨by rw [hc0.mp e], by omega⟩)] at h
          exact h _ _ T.nc_NoFormula (f1.trans f2)
        · refine w_intS hit (by omega) ?_
          walk_at "ws"
          · rw [if_pos (.inr (by omega))] at h
            exact h _ _ T.nc_NoFormula (f1.trans f2)
          · exact ⟨rfl, rfl, by omega⟩
        · rename_i e
          refine w_intS hit (by omega) ?_
          walk_at "ws"
          · rw [if_pos (.inr (by omega))] at h
            exact h _ _ T.nc_NoFormula (f1.trans f2)
          · refine ⟨rfl, rfl, ?_⟩
            rintro (⟨z, _⟩ | z)
            · exact e (hc0.mpr (Option.some.inj z))
            · omega
      obtain ⟨rfl, rfl, hnb⟩ := k2
      rw [if_neg hnb] at h
      walk_at "ws"
      refine w_intS hit (by omega) ?_
      walk_at "ws"
      rename_i p H3 n3 s3 e3
      have hdb : (cs.drop b).length = cs.length - b := List.length_drop ..
      refine h p H3 e3 (by omega) ?_ ⟨T.c_Reader, dx2, by rw [show z.length - (cs.drop b).length = k + 0 + b by omega]; exact s3 _ _ hs2, hC2⟩ ((f1.trans f2).trans (Fr.of s3))
      rw [show z.length - (cs.drop b).length = k + b by omega, ← List.drop_drop, hcs]
theorem all_Reader_total (T : Top K mg) : ∀ n : Nat, FnOk P w K mg base (L2.CX P w) (3 + n) T.a_Reader_total T.d_Reader_total ["self"] (sp_Reader_total K n) ∧ FnOk P w K mg base (L2.CX P w) (3 + n) T.a_Reader_product T.d_Reader_product ["self"] (sp_Reader_product K n) ∧ FnOk P w K mg base (L2.CX P w) (3 + n) T.a_Reader_piece T.d_Reader_piece ["self"] (sp_Reader_piece K n)
  | 0 => ⟨T.f_Reader_total.okX (k := 2) sc_Reader_total (fun _ _ _ _ h => (no_Reader_total h).elim) (fun _ _ _ _ _ _ _ _ _ h => (no_Reader_total h).elim), T.f_Reader_product.okX (k := 2) sc_Reader_product (fun _ _ _ _ h => (no_Reader_product h).elim) (fun _ _ _ _ _ _ _ _ _ h => (no_Reader_product h).elim), T.f_Reader_piece.okX (k := 2) sc_Reader_piece (fun _ _ _ _ h => (no_Reader_piece h).elim) (fun _ _ _ _ _ _ _ _ _ h => (no_Reader_piece h).elim)⟩
  | n + 1 => ⟨rec_Reader_total T n (all_Reader_total T n).1 (all_Reader_total T n).2.1 (all_Reader_total T n).2.2, rec_Reader_product T n (all_Reader_total T n).1 (all_Reader_total T n).2.1 (all_Reader_total T n).2.2, rec_Reader_piece T n (all_Reader_total T n).1 (all_Reader_total T n).2.1 (all_Reader_total T n).2.2⟩
theorem ok_Reader_total (T : Top K mg) : FnOk P w K mg base (L2.CX P w) 186 T.a_Reader_total T.d_Reader_total ["self"] (sp_Reader_total K 183) := (all_Reader_total T 183).1
theorem ok_Reader_product (T : Top K mg) : FnOk P w K mg base (L2.CX P w) 186 T.a_Reader_product T.d_Reader_product ["self"] (sp_Reader_product K 183) := (all_Reader_total T 183).2.1
theorem ok_Reader_piece (T : Top K mg) : FnOk P w K mg base (L2.CX P w) 186 T.a_Reader_piece T.d_Reader_piece ["self"] (sp_Reader_piece K 183) := (all_Reader_total T 183).2.2

/-! a whole text read -/
def sp_read (K : PySem.W.Frag) : Sp := fun vs H Q E => ∃ z : Str, vs = [.str z] ∧ z.length ≤ 100000 ∧ wgt z.cps.toList ≤ 60 ∧
  (∀ f, Wr 0 f z.cps.toList → ∀ p H', FmAt H' p f → Same H H' → Q (.ref p) H') ∧ ((∀ f, ¬ Wr 0 f z.cps.toList) → ∀ C H', IsC K "NoFormula" C → Same H H' → E (.ref C) none H')
theorem ok_read (T : Top K mg) : FnOk P w K mg base (L2.CX P w) 187 T.a_read T.d_read ["text"] (sp_read K) := by
  refine T.f_read.okX sc_read (fun vs H Q E h => ?_) (fun cdv A outer s H vs Q E hr h => ?_)
  · obtain ⟨z, rfl, _⟩ := h
    rfl
  obtain ⟨z, rfl, h⟩ := h
  refine ⟨_, (pss_cons (ps_set (i := 1) sc_read.nd rfl (.inl rfl) (pe_make T.mk_Reader (ok_Reader__init T) (hr.mono (by decide)) (by rfl) T.gc_Reader T.b_Reader__init .nil pass0 (pa_cons (pv 0) pa_nil)))
      (pss_cons (ps_set (i := 2) sc_read.nd rfl (.inl rfl) (pe_meth0 (pv 1) T.cl_Reader T.m_Reader_total (ok_Reader_total T) (hr.mono (by decide)) T.b_Reader_total .nil (passes_call (takes_of rfl rfl rfl rfl) (fun _ _ _ _ z => z))))
      (pss_cons (ps_if (pt_cmpR op_ne (pe_meth0 (pv 1) T.cl_Reader T.m_Reader_here (ok_Reader_here T) (hr.mono (by decide)) T.b_Reader_here .nil pass0) pe_str (nomark _)) (pss_one (ps_raise rfl (takes_of rfl rfl rfl rfl) (pmk_own PySem.F.excBase_ValueError T.x_NoFormula T.gc_NoFormula T.kc_NoFormula (raises_own T.xb_NoFormula T.xt_NoFormula) (by rfl)))) pss_nil)
      (pss_one (ps_ret (pv 2)))))), ?_⟩
  try dsimp only [cxOf, Cx.nox, Cx.wish]
  simp only [L2.start, List.map_cons, List.map_nil, List.length_cons, List.length_nil, Nat.reduceAdd, Nat.reduceSub, List.replicate_succ, List.replicate_zero, List.cons_append, List.nil_append]
  obtain ⟨hz, hw, h1, h2⟩ := h
  have hzl : z.cps.toList.length = z.length := Array.length_toList
  have c1 := T.cl_Reader
  have c2 := T.n_Reader_text
  have c3 := T.n_Reader_at
  walk_at "ws"
  rename_i s dx H1 n1 n2 s1 e1
  refine ⟨s, _, dx, z, rfl, e1, T.nc_Reader, fun H2 ha2 f2 => ⟨rfl, ?_⟩⟩
  have S2 : Same H H2 := f2.same s1 fun m hm => by rw [List.mem_singleton.mp hm]; exact n1
  obtain ⟨C, dx2, hs2, hC2⟩ := id ha2
  obtain rfl := hC2.one T.nc_Reader
  walk_at "ws"
  refine ⟨s, z, 0, rfl, ha2, Nat.zero_le _, hz, ?_⟩
  rw [List.drop_zero]
  have fuel : 3 * wgt z.cps.toList + 3 ≤ 183 := by omega
  have same3 : ∀ {H3 : Hp}, Fr [s] H2 H3 → Same H H3 := fun f => (f2.trans f).same s1 fun m hm => by rw [List.mem_singleton.mp hm]; exact n1
  by_cases hf : ∃ f, Wr 0 f z.cps.toList
  · obtain ⟨f, hf⟩ := hf
    rw [read_whole hf fuel]
    intro p H3 hp _ hd3 ha3 f3
    obtain ⟨C, dx3, hs3, hC3⟩ := id ha3
    obtain rfl := hC3.one T.nc_Reader
    walk_at "ws"
    refine use_here ha3 (by rw [List.length_nil]; omega) hz hd3 ?_
    walk_at "ws"
    exact h1 f hf p H3 hp (same3 f3)
  · have hf : ∀ f, ¬ Wr 0 f z.cps.toList := fun f w => hf ⟨f, w⟩
    rcases read_none hf fuel with e | ⟨f, c, r, e⟩
    · rw [e]
      exact fun C H3 hC f3 => h2 hf C H3 hC (same3 f3)
    · rw [e]
      intro p H3 hp hr hd3 ha3 f3
      obtain ⟨C, dx3, hs3, hC3⟩ := id ha3
      obtain rfl := hC3.one T.nc_Reader
      walk_at "ws"
      refine use_here ha3 (by omega) hz hd3 ?_
      walk_at "ws"
      · exact h2 hf _ H3 T.nc_NoFormula (same3 f3)
      · rename_i e9
        have := congrArg Str.length e9
        exact Nat.noConfusion (show 1 = 0 from this)

/-! the stack of parts -/
theorem StackPt.push {H G : Hp} {o p : Addr} {ts : List Pt} {t : Pt} {ps : List Addr} (s : Same H G) (e : H o = some (.lst (ps.map V.ref))) (hA : A2 (PtAt H) ps ts) (hf : PtAt G p t) : StackPt (upd G o (.lst (ps.map V.ref ++ [.ref p]))) o (ts ++ [t]) :=
  ⟨ps ++ [p], by rw [upd_same, List.map_append]; rfl, (hA.mono fun _ _ h => pt_upd (s _ _ e) (h.same s)).snoc (pt_upd (s _ _ e) hf)⟩
theorem StackPt.top {H : Hp} {o : Addr} {ts : List Pt} (h : StackPt H o ts) (hl : 0 < ts.length) : ∃ (gs : List Pt) (t : Pt) (qs : List Addr) (p : Addr), ts = gs ++ [t] ∧ H o = some (.lst (qs.map V.ref ++ [.ref p])) ∧ A2 (PtAt H) qs gs ∧ PtAt H p t := by
  obtain ⟨ps, e, hA⟩ := h
  have hpl := hA.1
  have hne : ps ≠ [] := fun z => by rw [z] at hpl; simp at hpl; omega
  rw [← List.dropLast_concat_getLast hne] at e hA
  obtain ⟨gs, t, rfl, h1, h2⟩ := hA.unsnoc
  exact ⟨gs, t, ps.dropLast, ps.getLast hne, rfl, by rw [e, List.map_append]; rfl, h1, h2⟩
def sp_law_in (K : PySem.W.Frag) : Sp := fun vs H Q _ => ∃ (p : Addr) (k : Nat) (t : Pt), vs = [.ref p, .int (k : Int)] ∧ PtAt H p t ∧ t.z.length ≤ 100000 ∧ ∀ p' H', PtAt H' p' (inPt (k : Int) t) → Same H H' → Q (.ref p') H'
theorem ok_law_in (T : Top K mg) : FnOk P w K mg base CX0 1 T.a_law_in T.d_law_in ["_law_part", "_law_rank"] (sp_law_in K) := by
  refine T.f_law_in.ok sc_law_in (fun vs H Q E h => ?_) (fun cdv A outer s H vs Q E hr h => ?_)
  · obtain ⟨p, k, t, rfl, _⟩ := h
    rfl
  obtain ⟨p, k, t, rfl, h⟩ := h
  refine ⟨_, (pss_cons (ps_if (pt_cmpR op_lt (pe_ix (ix_tupK K) (pv 0) pe_int (fun _ _ => rfl)) (pv 1) (nomark _)) (pss_one (ps_ret (pe_tup (pa_cons (pe_op op_addS (pe_op op_addS pe_str (pe_ix (ix_tupK K) (pv 0) pe_int (fun _ _ => rfl))) pe_str) (pa_cons (pe_ix (ix_tupK K) (pv 0) pe_int (fun _ _ => rfl)) (pa_cons pe_int pa_nil)))))) pss_nil)
      (pss_one (ps_ret (pv 0)))), ?_⟩
  try dsimp only [cxOf, Cx.nox, Cx.wish]
  simp only [L2.start, List.map_cons, List.map_nil, List.length_cons, List.length_nil, Nat.reduceAdd, Nat.reduceSub, List.replicate_succ, List.replicate_zero, List.cons_append, List.nil_append]
  obtain ⟨⟨q, hp, hq⟩, hz, h⟩ := h
  have l1 : (Str.ofString "(").length = 1 := rfl
  have l2 : (Str.ofString ")").length = 1 := rfl
  have l3 := app_len (Str.ofString "(") t.z
  walk_at "ws"
  · rename_i hk p2 H2 n2 s2 e2
    refine h p2 H2 ?_ s2
    unfold inPt
    rw [if_pos hk]
    exact ⟨q, e2, hq.same s2⟩
  · rename_i hk
    refine h p H ?_ (Same.refl _)
    unfold inPt
    rw [if_neg hk]
    exact ⟨q, hp, hq⟩
def sp_law_joined (K : PySem.W.Frag) : Sp := fun vs H Q _ => ∃ (w : Int) (p q : Addr) (t u : Pt), vs = [.int w, .ref p, .ref q] ∧ PtAt H p t ∧ PtAt H q u ∧ t.z.length ≤ 50000 ∧ u.z.length ≤ 50000 ∧ ∀ p' H', PtAt H' p' (joinPt w t u) → Same H H' → Q (.ref p') H'
theorem ok_law_joined (T : Top K mg) : FnOk P w K mg base CX0 2 T.a_law_joined T.d_law_joined ["_law_way", "_law_one", "_law_other"] (sp_law_joined K) := by
  refine T.f_law_joined.ok sc_law_joined (fun vs H Q E h => ?_) (fun cdv A outer s H vs Q E hr h => ?_)
  · obtain ⟨w, p, q, t, u, rfl, _⟩ := h
    rfl
  obtain ⟨w, p, q, t, u, rfl, h⟩ := h
  refine ⟨_, (pss_cons (ps_if (pt_cmpR op_eq (pe_op op_mod (pv 0) pe_int) pe_int (nomark _)) (pss_cons (ps_set (i := 1) sc_law_joined.nd rfl (.inl rfl) (pe_call (ok_law_in T) (hr.mono (by decide)) (by rfl) T.g_law_in T.f_law_in.kp T.b_law_in .nil pass0 (pa_cons (pv 1) (pa_cons pe_int pa_nil))))
      (pss_cons (ps_set (i := 2) sc_law_joined.nd rfl (.inl rfl) (pe_call (ok_law_in T) (hr.mono (by decide)) (by rfl) T.g_law_in T.f_law_in.kp T.b_law_in .nil pass0 (pa_cons (pv 2) (pa_cons pe_int pa_nil))))
      (pss_one (ps_ret (pe_tup (pa_cons (pe_op op_addS (pe_op op_addS (pe_ix (ix_tupK K) (pv 1) pe_int (fun _ _ => rfl)) pe_str) (pe_ix (ix_tupK K) (pv 2) pe_int (fun _ _ => rfl))) (pa_cons (pe_tup (pa_cons pe_str (pa_cons (pe_ix (ix_tupK K) (pv 1) pe_int (fun _ _ => rfl)) (pa_cons (pe_ix (ix_tupK K) (pv 2) pe_int (fun _ _ => rfl)) pa_nil)))) (pa_cons pe_int pa_nil)))))))) pss_nil)
      (pss_cons (ps_set (i := 2) sc_law_joined.nd rfl (.inl rfl) (pe_call (ok_law_in T) (hr.mono (by decide)) (by rfl) T.g_law_in T.f_law_in.kp T.b_law_in .nil pass0 (pa_cons (pv 2) (pa_cons pe_int pa_nil))))
      (pss_cons (ps_set (i := 3) sc_law_joined.nd rfl (.inl rfl) (pe_ix (ix_listK K) (pe_lst (pa_cons pe_str (pa_cons pe_str pa_nil))) (pe_op op_mod (pv 0) pe_int) (fun _ _ => rfl)))
      (pss_one (ps_ret (pe_tup (pa_cons (pe_op op_addS (pe_op op_addS (pe_ix (ix_tupK K) (pv 1) pe_int (fun _ _ => rfl)) (pe_ix (ix_listK K) (pe_lst (pa_cons pe_str (pa_cons pe_str pa_nil))) (pe_op op_mod (pv 0) pe_int) (fun _ _ => rfl))) (pe_ix (ix_tupK K) (pv 2) pe_int (fun _ _ => rfl))) (pa_cons (pe_tup (pa_cons (pv 3) (pa_cons (pe_ix (ix_tupK K) (pv 1) pe_int (fun _ _ => rfl)) (pa_cons (pe_ix (ix_tupK K) (pv 2) pe_int (fun _ _ => rfl)) pa_nil)))) (pa_cons pe_int pa_nil))))))))), ?_⟩
  try dsimp only [cxOf, Cx.nox, Cx.wish]
  simp only [L2.start, List.map_cons, List.map_nil, List.length_cons, List.length_nil, Nat.reduceAdd, Nat.reduceSub, List.replicate_succ, List.replicate_zero, List.cons_append, List.nil_append]
  obtain ⟨hp, hq, ht, hu, h⟩ := h
  have inl : ∀ (k : Int) (a : Pt), a.z.length ≤ 50000 → (inPt k a).z.length ≤ 50002 ∧ (inPt k a).f = a.f ∧ (inPt k a).b = a.b ∧ (inPt k a).c = a.c := fun k a ha => by
    unfold inPt
    split
    · refine ⟨?_, rfl, rfl, rfl⟩
      show (((("(" : Str) ++ a.z ++ (")" : Str)))).length ≤ _
      rw [app_len, app_len]
      show 1 + _ + 1 ≤ _
      omega
    · exact ⟨by omega, rfl, rfl, rfl⟩
  have l1 : (Str.ofString "*").length = 1 := rfl
  have l2 : (Str.ofString "+").length = 1 := rfl
  have l3 : (Str.ofString "-").length = 1 := rfl
  have i1 := inl 1 t ht
  have i2 := inl 2 u hu
  have i3 := inl 1 u hu
  have a1 := app_len (inPt 1 t).z (Str.ofString "*")
  have a2 := app_len t.z (Str.ofString "+")
  have a3 := app_len t.z (Str.ofString "-")
  walk_at "ws"
  · rename_i hw
    refine ⟨p, 1, t, rfl, hp, by omega, fun p1 H1 hp1 s1 => ?_⟩
    obtain ⟨q1, e1, f1⟩ := id hp1
    walk_at "ws"
    refine ⟨q, 2, u, rfl, hq.same s1, by omega, fun p2 H2 hp2 s2 => ?_⟩
    obtain ⟨q2, e2, f2⟩ := hp2
    have e1' := s2 _ _ e1
    have f1' := f1.same s2
    have i1 : (inPt ((1 : Nat) : Int) t).z.length ≤ 50002 ∧ (inPt ((1 : Nat) : Int) t).f = t.f ∧ _ := i1
    have i2 : (inPt ((2 : Nat) : Int) u).z.length ≤ 50002 ∧ (inPt ((2 : Nat) : Int) u).f = u.f ∧ _ := i2
    have a1 : ((inPt ((1 : Nat) : Int) t).z ++ Str.ofString "*").length = _ := a1
    rw [i1.2.1] at f1'
    rw [i2.2.1] at f2
    walk_at "ws"
    rename_i p3 H3 n3 s3 e3 p4 H4 n4 s4 e4
    refine h p4 H4 ?_ (((s1.trans s2).trans s3).trans s4)
    unfold joinPt
    rw [if_pos hw]
    exact ⟨p3, e4, q1, q2, s4 _ _ e3, (f1'.same s3).same s4, (f2.same s3).same s4⟩
  · rename_i hw
    refine ⟨q, 1, u, rfl, hq, by omega, fun p2 H2 hp2 s2 => ?_⟩
    obtain ⟨q2, e2, f2⟩ := hp2
    obtain ⟨q1, e1, f1⟩ := hp.same s2
    have i3 : (inPt ((1 : Nat) : Int) u).z.length ≤ 50002 ∧ (inPt ((1 : Nat) : Int) u).f = u.f ∧ _ := i3
    rw [i3.2.1] at f2
    walk_at "ws"
    rename_i p3 H3 n3 s3 e3
    obtain hw2 | hw2 : w % 3 = 0 ∨ w % 3 = 1 := by omega
    · rw [hw2]
      walk_at "ws"
      rw [hw2]
      walk_at "ws"
      rename_i p4 H4 n4 s4 e4 p5 H5 n5 s5 e5 p6 H6 n6 s6 e6
      have s46 := (s4.trans s5).trans s6
      refine h p6 H6 ?_ ((s2.trans s3).trans s46)
      unfold joinPt
      rw [if_neg hw, if_pos hw2]
      exact ⟨p5, e6, q1, q2, s6 _ _ e5, f1.same (s3.trans s46), f2.same (s3.trans s46)⟩
    · rw [hw2]
      walk_at "ws"
      rw [hw2]
      walk_at "ws"
      rename_i p4 H4 n4 s4 e4 p5 H5 n5 s5 e5 p6 H6 n6 s6 e6
      have s46 := (s4.trans s5).trans s6
      refine h p6 H6 ?_ ((s2.trans s3).trans s46)
      unfold joinPt
      rw [if_neg hw, if_neg (by omega)]
      exact ⟨p5, e6, q1, q2, s6 _ _ e5, f1.same (s3.trans s46), f2.same (s3.trans s46)⟩

/-! a drawn leaf as a part -/
inductive LeafPt : Fm → Str → Prop
  | name (n : Str) (h : NameOk n) : LeafPt (.name n) n
  | num (v : Int) (h : 0 ≤ v ∧ v ≤ 1000000000000) : LeafPt (.num v) (Str.ofString (toString v))
theorem leaf_pt {f : Fm} {z : Str} (h : LeafPt f z) : PtOk ⟨z, f, 2, false, 1⟩ := by
  cases h with
  | name _ h =>
    refine ⟨Nat.le_refl _, ?_, ?_, Nat.le_refl _, Nat.le_refl _, fun _ => name_wr h, fun z => by cases z⟩
    · have := h.1
      show z.length ≤ 20 * 1
      omega
    · show wgt z.cps.toList ≤ 2 * 1
      rw [wgt_off fun c hc => by have := h.2 c hc; unfold letter at this; omega]
      decide
  | num v h =>
    refine ⟨Nat.le_refl _, ?_, ?_, Nat.le_refl _, Nat.le_refl _, fun _ => num_wr h, fun z => by cases z⟩
    · have := num_len h
      show (Str.ofString (toString v)).length ≤ 20 * 1
      omega
    · obtain ⟨m, rfl⟩ := Int.eq_ofNat_of_zero_le h.1
      show wgt (Str.ofString (toString ((m : Nat) : Int))).cps.toList ≤ 2 * 1
      rw [wgt_off fun c hc => by rw [num_digits] at hc; have := num_all m c hc; omega]
      decide
theorem leaf_cases {nm : List Str} {f : Fm} (hs : f.size = 1) (hn : ∀ x ∈ nm, NameOk x) (h : FmOk (· ∈ nm) f) : (∃ n, f = .name n ∧ NameOk n) ∨ ∃ v, f = .num v ∧ 0 ≤ v ∧ v ≤ 1000000000000 := by
  cases f with
  | name n => exact .inl ⟨n, rfl, hn n h⟩
  | num v => exact .inr ⟨v, rfl, h⟩
  | plus f g => exfalso; have := f.size_pos; have := g.size_pos; unfold Fm.size at hs; omega
  | less f g => exfalso; have := f.size_pos; have := g.size_pos; unfold Fm.size at hs; omega
  | times f g => exfalso; have := f.size_pos; have := g.size_pos; unfold Fm.size at hs; omega
  | turned f => exfalso; have := f.size_pos; unfold Fm.size at hs; omega

/-! k38: texts that are no piece, refused -/
theorem exc_NoFormula (T : Top K mg) : ExcC K T.c_NoFormula := ⟨T.ega_NoFormula, T.egg_NoFormula, T.xb_NoFormula, T.ehd_NoFormula, T.ecl_NoFormula, T.esp_NoFormula, T.etk_NoFormula, T.emr_NoFormula⟩
def badL : List Str := ["01", "00", "1a", "a1", "A", "aB", "abcdefg", "1000000000001", "99999999999999", "()", "(a", "a)", "a b", " a", "a ", "+a", "*a", "a(b)", "(a)b", "1_0"]
def badB (cs : List Nat) : Bool := ((lint .R cs).isNone || !decide (bal cs = 0)) && (decide (wgt cs ≤ 1) && decide (cs.length ≤ 20))
theorem badL_all : (badL.all fun x => badB x.cps.toList) = true := by decide +kernel
theorem badL_ok {x : Str} (h : x ∈ badL) : PtOk ⟨x, .num 0, 2, true, 1⟩ ∧ ∀ f, PtOk ⟨x, f, 2, true, f.size⟩ := by
  have k := List.all_eq_true.mp badL_all x h
  unfold badB at k
  rw [Bool.and_eq_true, Bool.and_eq_true, Bool.or_eq_true, decide_eq_true_eq, decide_eq_true_eq] at k
  obtain ⟨k1, k2, k3⟩ := k
  have hb : Bad x.cps.toList := by
    rcases k1 with e | e
    · exact .inl (Option.isNone_iff_eq_none.mp e)
    · exact .inr fun z => by rw [z] at e; cases e
  have hl : x.length ≤ 20 := by rw [len_cps]; exact k3
  refine ⟨⟨Nat.le_refl _, (by show x.length ≤ 20 * 1; omega), (by show wgt x.cps.toList ≤ 2 * 1; omega), Nat.le_refl _, Nat.le_refl _, (fun z => by cases z), fun _ => hb⟩, fun f => ?_⟩
  have := f.size_pos
  exact ⟨Nat.le_refl _, (by show x.length ≤ 20 * f.size; omega), (by show wgt x.cps.toList ≤ 2 * f.size; omega), this, Nat.le_refl _, (fun z => by cases z), fun _ => hb⟩
theorem empty_not : ∀ f, ¬ Wr 0 f [] := fun f w => by
  obtain ⟨⟨s, e, d⟩, _⟩ := w.clean
  cases e
  exact d
def sp_law_bad (K : PySem.W.Frag) : Sp := fun vs H Q _ => vs = [] ∧ ∀ p H', H' p = some (.lst (badL.map V.str)) → Same H H' → Q (.ref p) H'
theorem ok_law_bad (T : Top K mg) : FnOk P w K mg base CX0 1 T.a_law_bad T.d_law_bad [] (sp_law_bad K) := by
  refine T.f_law_bad.ok sc_law_bad (fun vs H Q E h => ?_) (fun cdv A outer s H vs Q E hr h => ?_)
  · obtain ⟨rfl, _⟩ := h
    rfl
  obtain ⟨rfl, h⟩ := h
  refine ⟨_, (pss_cons (ps_set (i := 0) sc_law_bad.nd rfl (.inl rfl) (pe_lst (pa_cons pe_str (pa_cons pe_str (pa_cons pe_str (pa_cons pe_str (pa_cons pe_str (pa_cons pe_str (pa_cons pe_str (pa_cons pe_str (pa_cons pe_str (pa_cons pe_str pa_nil))))))))))))
      (pss_one (ps_ret (pe_op op_cat (pv 0) (pe_lst (pa_cons pe_str (pa_cons pe_str (pa_cons pe_str (pa_cons pe_str (pa_cons pe_str (pa_cons pe_str (pa_cons pe_str (pa_cons pe_str (pa_cons pe_str (pa_cons pe_str pa_nil))))))))))))))), ?_⟩
  try dsimp only [cxOf, Cx.nox, Cx.wish]
  simp only [L2.start, List.map_cons, List.map_nil, List.length_cons, List.length_nil, Nat.reduceAdd, Nat.reduceSub, List.replicate_succ, List.replicate_zero, List.cons_append, List.nil_append]
  walk_at "ws"
  rename_i p1 H1 n1 s1 e1 p2 H2 n2 s2 e2
  intro p H3 n3 s3 e3
  exact h p H3 e3 ((s1.trans s2).trans s3)
def sp_law_refused (K : PySem.W.Frag) : Sp := fun vs H Q _ => ∃ z : Str, vs = [.str z] ∧ z.length ≤ 100000 ∧ wgt z.cps.toList ≤ 60 ∧ (∀ f, ¬ Wr 0 f z.cps.toList) ∧ ∀ H', Same H H' → Q (.bl true) H'
theorem ok_law_refused (T : Top K mg) : FnOk P w K mg base CX0 188 T.a_law_refused T.d_law_refused ["_law_text"] (sp_law_refused K) := by
  refine T.f_law_refused.ok sc_law_refused (fun vs H Q E h => ?_) (fun cdv A outer s H vs Q E hr h => ?_)
  · obtain ⟨z, rfl, _⟩ := h
    rfl
  obtain ⟨z, rfl, h⟩ := h
  refine ⟨_, (pss_cons (ps_set (i := 1) sc_law_refused.nd rfl (.inl rfl) pe_non)
      (pss_cons (ps_try_named (i := 2) rfl rfl rfl sc_law_refused.nd rfl rfl takes0 (fun W pn xe tk ow => (pss_one (ps_expr (pe_callS (ok_read T) (hr.mono (by decide)) (by rfl) T.g_read T.f_read.kp T.b_read (fun σ => passAt tk σ) (pa_cons (pv 0) pa_nil)))))
      (.cons ⟨rfl, by decide, .inl T.gc_NoFormula⟩ (fun a oe cls d pn hz hf => (pss_one (ps_set (i := 1) sc_law_refused.nd rfl (.inl rfl) (pv 2))))
      .nil))
      (pss_cons (ps_if (pt_val (pe_callB (c_isxT K) (by rfl) T.z_isinstance (by decide +kernel) (pa_cons (pv 1) (pa_cons (pe_tup (pa_cons (pe_glob (v := .ref T.c_TooFew) (by rfl) T.gc_TooFew rfl) (pa_cons (pe_glob (v := .ref T.c_TooMany) (by rfl) T.gc_TooMany rfl) (pa_cons (pe_glob (v := .ref T.c_TooWide) (by rfl) T.gc_TooWide rfl) (pa_cons (pe_glob (v := .ref T.c_NoName) (by rfl) T.gc_NoName rfl) (pa_cons (pe_glob (v := .ref T.c_NoLine) (by rfl) T.gc_NoLine rfl) (pa_cons (pe_glob (v := .ref T.c_NoCircuit) (by rfl) T.gc_NoCircuit rfl) (pa_cons (pe_glob (v := .ref T.c_OutOfWidth) (by rfl) T.gc_OutOfWidth rfl) pa_nil)))))))) pa_nil)))) (pss_one (ps_ret pe_bl)) pss_nil)
      (pss_one (ps_ret (pe_and (pe_callB (c_isx K) (by rfl) T.z_isinstance (by decide +kernel) (pa_cons (pv 1) (pa_cons (pe_glob (v := .ref T.c_PressError) (by rfl) T.gc_PressError rfl) pa_nil))) (pe_one (pe_callB (c_isx K) (by rfl) T.z_isinstance (by decide +kernel) (pa_cons (pv 1) (pa_cons (pe_bltn (v := .ty "ValueError") (by rfl) T.z_ValueError (by decide +kernel) rfl) pa_nil)))))))))), ?_⟩
  try dsimp only [cxOf, Cx.nox, Cx.wish]
  simp only [L2.start, List.map_cons, List.map_nil, List.length_cons, List.length_nil, Nat.reduceAdd, Nat.reduceSub, List.replicate_succ, List.replicate_zero, List.cons_append, List.nil_append]
  obtain ⟨hz, hw, hno, h⟩ := h
  walk_at "ws"
  refine ⟨z, rfl, hz, hw, fun f w => absurd w (hno f), fun _ C H0 hC s0 => ?_⟩
  obtain rfl := hC.one T.nc_NoFormula
  refine w_hit T.m_NoFormula_NoFormula fun a na => ?_
  walk_at "ws"
  refine w_keep fun H1 s1 e1 => ?_
  have X := exc_NoFormula T
  walk_at "ws"
  rename_i tp H2 n2 s2 e2
  have e12 := s2 _ _ e1
  refine w_isxT0 (cs := [T.c_TooFew, T.c_TooMany, T.c_TooWide, T.c_NoName, T.c_NoLine, T.c_NoCircuit, T.c_OutOfWidth]) e12 X e2 (fun c m => ?_) ?_
  · simp only [List.mem_cons, List.not_mem_nil, or_false] at m
    rcases m with rfl | rfl | rfl | rfl | rfl | rfl | rfl
    · exact T.k_NoFormula_TooFew
    · exact T.k_NoFormula_TooMany
    · exact T.k_NoFormula_TooWide
    · exact T.k_NoFormula_NoName
    · exact T.k_NoFormula_NoLine
    · exact T.k_NoFormula_NoCircuit
    · exact T.k_NoFormula_OutOfWidth
  walk_at "ws"
  refine w_isx e12 X (.own _) T.k_NoFormula_PressError ?_
  walk_at "ws"
  refine w_isx e12 X (.ty _) T.kv_NoFormula ?_
  walk_at "ws"
  exact h _ (s0.trans (s1.trans s2))

/-! k38: the text written with a spoilt leaf -/
def nbad (ts : List Pt) : Nat := (ts.map fun t => t.b.toNat).sum
theorem nbad_snoc (ts : List Pt) (t : Pt) : nbad (ts ++ [t]) = nbad ts + t.b.toNat := by
  unfold nbad
  rw [List.map_append, List.sum_append]
  rfl
theorem or_nat {b c : Bool} (h : b.toNat + c.toNat ≤ 1) : ¬ (b = true ∧ c = true) ∧ (b || c).toNat = b.toNat + c.toNat := by
  cases b <;> cases c <;> first
    | exact ⟨(fun z => absurd z.1 (by decide)), rfl⟩
    | exact ⟨(fun z => absurd z.2 (by decide)), rfl⟩
    | (exfalso; exact absurd h (by decide))
def LeftAt (H : Hp) (la : Addr) (l sp : List Str) : Prop := H la = some (.lst (l.map V.str)) ∧ (l = [] ∨ l = sp)
structure WInv (H G : Hp) (la o : Addr) (l sp : List Str) (ts : List Pt) (parts m : Int) : Prop where
  sm : Same H G
  left : LeftAt G la l sp
  st : StackPt G o ts
  tot : ((totalP ts : Nat) : Int) + 1 = parts
  le : parts ≤ m
  ok : ∀ t ∈ ts, PtOk t
  nb : l.length + nbad ts = sp.length
theorem LeftAt.fr {H G : Hp} {la o : Addr} {l sp : List Str} (f : Fr [o] H G) (ne : la ≠ o) (h : LeftAt H la l sp) : LeftAt G la l sp := ⟨f _ _ h.1 (by simpa using ne), h.2⟩
theorem WInv.push {H G1 G2 : Hp} {la o p : Addr} {l sp : List Str} {gs : List Pt} {qs : List Addr} {t : Pt} {parts m : Int} (n1 : H o = none) (ne : la ≠ o) (s1 : Same H G1) (hl : LeftAt G1 la l sp) (e1 : G1 o = some (.lst (qs.map V.ref))) (hA : A2 (PtAt G1) qs gs) (s2 : Same G1 G2)
    (hp : PtAt G2 p t) (hg : ∀ g ∈ gs, PtOk g) (ht : PtOk t) (tot : ((totalP (gs ++ [t]) : Nat) : Int) + 1 = parts) (le : parts ≤ m) (nb : l.length + nbad (gs ++ [t]) = sp.length) : WInv H (upd G2 o (.lst (qs.map V.ref ++ [.ref p]))) la o l sp (gs ++ [t]) parts m :=
  ⟨same_mut (s1.trans s2) n1, hl.fr ((Fr.of s2).trans (Fr.put (List.mem_cons_self ..))) ne, StackPt.push s2 e1 hA hp, tot, le, fun g hgm => by
    rcases List.mem_append.mp hgm with z | z
    · exact hg g z
    · rw [List.mem_singleton.mp z]; exact ht, nb⟩
def sp_law_written (K : PySem.W.Frag) : Sp := fun vs H Q _ => ∃ (a b c : Addr) (ns : List Int) (nm sp : List Str) (m : Int), vs = [.ref a, .ref b, .ref c, .int m] ∧ SqL K H a (ns.map V.int) ∧ (∀ z ∈ ns, Builtin.Int.intBits z ≤ 1048576) ∧ ns.length ≤ 100 ∧ SqL K H b (nm.map V.str) ∧ 0 < nm.length ∧ (∀ x ∈ nm, NameOk x) ∧ 3 ≤ m ∧ m ≤ 100 ∧
  H c = some (.lst (sp.map V.str)) ∧ sp.length ≤ 1 ∧ (∀ x ∈ sp, x ∈ badL) ∧
  ∀ (t : Pt) p q H', (t.c : Int) ≤ m - 1 → PtOk t → (sp = [] → t.b = false) → Same H H' → PtAt H' q t → H' p = some (.tup [.ref q, .bl t.b]) → Q (.ref p) H'
theorem ok_law_written (T : Top K mg) : FnOk P w K mg base CX0 3 T.a_law_written T.d_law_written ["_law_cells", "_law_names_here", "_law_spoilt", "_law_most"] (sp_law_written K) := by
  refine T.f_law_written.ok sc_law_written (fun vs H Q E h => ?_) (fun cdv A outer s H vs Q E hr h => ?_)
  · obtain ⟨a, b, c, ns, nm, sp, m, rfl, _⟩ := h
    rfl
  obtain ⟨a, b, c, ns, nm, sp, m, rfl, h⟩ := h
  refine ⟨_, (pss_cons (ps_set (i := 4) sc_law_written.nd rfl (.inl rfl) (pe_callTy (c_listK K) (by rfl) T.z_list (by decide +kernel) (pa_cons (pv 2) pa_nil)))
      (pss_cons (ps_set (i := 5) sc_law_written.nd rfl (.inl rfl) (pe_lst pa_nil))
      (pss_cons (ps_set (i := 6) sc_law_written.nd rfl (.inl rfl) pe_int)
      (pss_cons (ps_for PassesOwn.never rfl (pi_enum (by rfl) T.z_enumerate (pa_cons (pv 0) pa_nil)) (pg_tup (by rfl) (pgs_cons (pg_name (i := 7) sc_law_written.nd rfl (.inl rfl)) (pgs_cons (pg_name (i := 8) sc_law_written.nd rfl (.inl rfl)) pgs_nil)))
      (pss_cons (ps_set (i := 9) sc_law_written.nd rfl (.inl rfl) (pe_call (ok_law_mixed T) (hr.mono (by decide)) (by rfl) T.g_law_mixed T.f_law_mixed.kp T.b_law_mixed .nil pass0 (pa_cons (pv 8) (pa_cons (pv 7) pa_nil))))
      (pss_cons (ps_set (i := 10) sc_law_written.nd rfl (.inl rfl) (pe_op op_mod (pv 9) pe_int))
      (pss_one (ps_if (PW.pt (pw_and (pt_cmpR op_eq (pv 10) pe_int (nomark _)) (pw_and (pt_cmpR op_gt (pe_callB (c_lenK K) (by rfl) T.z_len PySem.boot_len (pa_cons (pv 5) pa_nil)) pe_int (nomark _)) (pw_and1 (pt_cmpR op_lt (pv 6) (pv 3) (nomark _)))))) (pss_cons (ps_set (i := 11) sc_law_written.nd rfl (.inl rfl) (pe_call (ok_law_in T) (hr.mono (by decide)) (by rfl) T.g_law_in T.f_law_in.kp T.b_law_in .nil pass0 (pa_cons (pe_bm0 PySem.F.plainAttrs_list PySem.F.slot_list_pop PySem.F.type_list_pop mt_pop (pv 5)) (pa_cons pe_int pa_nil))))
      (pss_cons (ps_expr (pe_bm PySem.F.plainAttrs_list PySem.F.slot_list_append PySem.F.type_list_append mt_append (pv 5) (pa_cons (pe_tup (pa_cons (pe_op op_addS pe_str (pe_ix (ix_tupK K) (pv 11) pe_int (fun _ _ => rfl))) (pa_cons (pe_tup (pa_cons pe_str (pa_cons (pe_ix (ix_tupK K) (pv 11) pe_int (fun _ _ => rfl)) pa_nil))) (pa_cons pe_int pa_nil)))) pa_nil)))
      (pss_one (ps_set (i := 6) sc_law_written.nd rfl (.inl rfl) (pe_op op_add (pv 6) pe_int))))) (pss_one (ps_if (PW.pt (pw_and (pt_cmpR op_eq (pv 10) pe_int (nomark _)) (pw_and (pt_cmpR op_gt (pe_callB (c_lenK K) (by rfl) T.z_len PySem.boot_len (pa_cons (pv 5) pa_nil)) pe_int (nomark _)) (pw_and1 (pt_cmpR op_lt (pv 6) (pv 3) (nomark _)))))) (pss_cons (ps_expr (pe_bm PySem.F.plainAttrs_list PySem.F.slot_list_append PySem.F.type_list_append mt_append (pv 5) (pa_cons (pe_call (ok_law_in T) (hr.mono (by decide)) (by rfl) T.g_law_in T.f_law_in.kp T.b_law_in .nil pass0 (pa_cons (pe_bm0 PySem.F.plainAttrs_list PySem.F.slot_list_pop PySem.F.type_list_pop mt_pop (pv 5)) (pa_cons pe_int pa_nil))) pa_nil)))
      (pss_one (ps_set (i := 6) sc_law_written.nd rfl (.inl rfl) (pe_op op_add (pv 6) pe_int)))) (pss_one (ps_if (PW.pt (pw_and (pt_cmpR op_gt (pv 10) pe_int (nomark _)) (pw_and1 (pt_cmpR op_gt (pe_callB (c_lenK K) (by rfl) T.z_len PySem.boot_len (pa_cons (pv 5) pa_nil)) pe_int (nomark _))))) (pss_cons (ps_set (i := 12) sc_law_written.nd rfl (.inl rfl) (pe_bm0 PySem.F.plainAttrs_list PySem.F.slot_list_pop PySem.F.type_list_pop mt_pop (pv 5)))
      (pss_one (ps_expr (pe_bm PySem.F.plainAttrs_list PySem.F.slot_list_append PySem.F.type_list_append mt_append (pv 5) (pa_cons (pe_call (ok_law_joined T) (hr.mono (by decide)) (by rfl) T.g_law_joined T.f_law_joined.kp T.b_law_joined .nil pass0 (pa_cons (pv 10) (pa_cons (pe_bm0 PySem.F.plainAttrs_list PySem.F.slot_list_pop PySem.F.type_list_pop mt_pop (pv 5)) (pa_cons (pv 12) pa_nil)))) pa_nil))))) (pss_one (ps_if (pt_cmpR op_le (pe_op op_add (pv 6) pe_int) (pv 3) (nomark _)) (pss_cons (ps_set (i := 13) sc_law_written.nd rfl (.inl rfl) (pe_call (ok_law_leaf T) (hr.mono (by decide)) (by rfl) T.g_law_leaf T.f_law_leaf.kp T.b_law_leaf .nil pass0 (pa_cons (pe_op op_fdiv (pv 9) pe_int) (pa_cons (pv 1) pa_nil))))
      (pss_cons (ps_set (i := 14) sc_law_written.nd rfl (.inl rfl) (pe_callTy c_strA (by rfl) T.z_str (by decide +kernel) (pa_cons (pe_ix (ix_tupK K) (pv 13) pe_int (fun _ _ => rfl)) pa_nil)))
      (Evl.pss_cut (ps_if (PW.pt (pw_and (pt_cmpR op_eq (pe_op op_mod (pe_op op_fdiv (pv 9) pe_int) pe_int) pe_int (nomark _)) (pw_and1 (pt_cmpR op_gt (pe_callB (c_lenK K) (by rfl) T.z_len PySem.boot_len (pa_cons (pv 4) pa_nil)) pe_int (nomark _))))) (pss_one (ps_set (i := 14) sc_law_written.nd rfl (.inl rfl) (pe_bm0 PySem.F.plainAttrs_list PySem.F.slot_list_pop PySem.F.type_list_pop mt_pop (pv 4)))) pss_nil)
      (pss_cons (ps_expr (pe_bm PySem.F.plainAttrs_list PySem.F.slot_list_append PySem.F.type_list_append mt_append (pv 5) (pa_cons (pe_tup (pa_cons (pv 14) (pa_cons (pv 13) (pa_cons pe_int pa_nil)))) pa_nil)))
      (pss_one (ps_set (i := 6) sc_law_written.nd rfl (.inl rfl) (pe_op op_add (pv 6) pe_int))))))) pss_nil)))))))))))
      (Evl.pss_cut (ps_if (pt_cmpR op_eq (pe_callB (c_lenK K) (by rfl) T.z_len PySem.boot_len (pa_cons (pv 5) pa_nil)) pe_int (nomark _)) (pss_one (ps_expr (pe_bm PySem.F.plainAttrs_list PySem.F.slot_list_append PySem.F.type_list_append mt_append (pv 5) (pa_cons (pe_tup (pa_cons pe_str (pa_cons (pe_tup (pa_cons pe_str (pa_cons pe_int pa_nil))) (pa_cons pe_int pa_nil)))) pa_nil)))) pss_nil)
      (pss_cons (ps_while PassesOwn.never (pt_cmpR op_gt (pe_callB (c_lenK K) (by rfl) T.z_len PySem.boot_len (pa_cons (pv 5) pa_nil)) pe_int (nomark _))
      (pss_cons (ps_set (i := 12) sc_law_written.nd rfl (.inl rfl) (pe_bm0 PySem.F.plainAttrs_list PySem.F.slot_list_pop PySem.F.type_list_pop mt_pop (pv 5)))
      (pss_one (ps_expr (pe_bm PySem.F.plainAttrs_list PySem.F.slot_list_append PySem.F.type_list_append mt_append (pv 5) (pa_cons (pe_call (ok_law_joined T) (hr.mono (by decide)) (by rfl) T.g_law_joined T.f_law_joined.kp T.b_law_joined .nil pass0 (pa_cons (pe_op op_add (pe_callB (c_lenK K) (by rfl) T.z_len PySem.boot_len (pa_cons (pv 5) pa_nil)) (pv 6)) (pa_cons (pe_bm0 PySem.F.plainAttrs_list PySem.F.slot_list_pop PySem.F.type_list_pop mt_pop (pv 5)) (pa_cons (pv 12) pa_nil)))) pa_nil))))))
      (pss_one (ps_ret (pe_tup (pa_cons (pe_ix (ix_listK K) (pv 5) pe_int (fun _ _ => rfl)) (pa_cons (pe_cmpR op_lt (pe_callB (c_lenK K) (by rfl) T.z_len PySem.boot_len (pa_cons (pv 4) pa_nil)) (pe_callB (c_lenK K) (by rfl) T.z_len PySem.boot_len (pa_cons (pv 2) pa_nil)) (nomark _)) pa_nil))))))))))), ?_⟩
  try dsimp only [cxOf, Cx.nox, Cx.wish]
  simp only [L2.start, List.map_cons, List.map_nil, List.length_cons, List.length_nil, Nat.reduceAdd, Nat.reduceSub, List.replicate_succ, List.replicate_zero, List.cons_append, List.nil_append]
  obtain ⟨hS, hb, hnl, hN, hml, hnm, hm2, hm100, hc, hsp, hbd, h⟩ := h
  have hlm : (ns.map V.int).length = ns.length := List.length_map ..
  walk_at "ws"
  rename_i la H0 n0 s0 e0 o H1 n1' s1' e1
  have n1 : H o = none := s0.free n1'
  have s1 := s0.trans s1'
  have ne : la ≠ o := ne_of_none e0 n1'
  have e0 := s1' _ _ e0
  clear s1'
  refine for_e (ns.map V.int) (fun i σ' G => ∃ (l : List Str) (ts : List Pt) (parts : Int) (y7 y8 y9 y10 y11 y12 y13 y14 : Option V), σ' = [some (.ref a), some (.ref b), some (.ref c), some (.int m), some (.ref la), some (.ref o), some (.int parts), y7, y8, y9, y10, y11, y12, y13, y14] ∧ WInv H G la o l sp ts parts m)
    ⟨sp, [], 1, _, _, _, _, _, _, _, _, rfl, s1, ⟨e0, .inr rfl⟩, ⟨[], e1, A2.nil⟩, rfl, by omega, fun f z => (by cases z), rfl⟩ (fun i σ' G _ q => ?_) (fun i x σ' G0 G hx q sG => ?_) (fun σ' G q => ?_)
  · obtain ⟨l, ts, parts, y7, y8, y9, y10, y11, y12, y13, y14, rfl, I⟩ := q
    exact I.sm.seq hS
  · obtain ⟨l, ts, parts, y7, y8, y9, y10, y11, y12, y13, y14, rfl, I0⟩ := q
    have sm := I0.sm.trans sG
    have hst : StackPt G o ts := by
      obtain ⟨ps, e, hA⟩ := I0.st
      exact ⟨ps, sG _ _ e, hA.mono fun _ _ h => h.same sG⟩
    have hlf : LeftAt G la l sp := ⟨sG _ _ I0.left.1, I0.left.2⟩
    have ht := I0.tot
    have hpm := I0.le
    have hok := I0.ok
    have hnb := I0.nb
    have I : WInv H G la o l sp ts parts m := ⟨sm, hlf, hst, ht, hpm, hok, hnb⟩
    clear I0 sG
    obtain ⟨z, hz, rfl⟩ := get_map hx
    have hzb := hb z (List.mem_of_getElem? hz)
    have hi := (List.getElem?_eq_some_iff.mp hz).1
    obtain ⟨ps, eo, hA⟩ := id hst
    have hpl : (ps.map V.ref).length = ts.length := by rw [List.length_map, hA.1]
    have hfl : ts.length ≤ 100 := by unfold totalP at ht; omega
    have hNG := sm.seq hN
    have hfl2 : totalP ts ≤ 100 := by omega
    have l1 : (Str.ofString "-").length = 1 := rfl
    have ela := hlf.1
    have hll : (l.map V.str).length = l.length := List.length_map ..
    have leaf : ∀ {vv : Int} {w8 : V} (f : Fm) (p : Addr) (x : Str) (y11 y12 y14 : Option V) (G2 : Hp), f.size = 1 → FmOk (· ∈ nm) f → Same G G2 → FmAt G2 p f → LeafPt f x → parts + 2 ≤ m →
        ∃ (l' : List Str) (t : Pt) (G3 : Hp), True := fun {_ _} f p x _ _ _ G2 _ _ _ _ _ _ => ⟨[], ⟨x, f, 2, false, 1⟩, G2, trivial⟩
    clear leaf
    walk_at "ws"
    all_goals first
      | exact ⟨l, ts, parts, _, _, _, _, _, _, _, _, rfl, I⟩
      | (refine ⟨_, b, nm, rfl, by omega, by omega, hNG, hml, fun f p G2 hf1 hfo np sp2 hp => ?_⟩
         have eo2 := sp2 _ _ eo
         have ela2 := sp2 _ _ ela
         have hfs : ∀ x, x ∈ badL → PtOk ⟨x, f, 2, true, 1⟩ := fun x hx => by
           have := (badL_ok hx).2 f
           rw [hf1] at this
           exact this
         have hA2 : A2 (PtAt G2) ps ts := hA.mono fun _ _ h => h.same sp2
         obtain ⟨x, w0, v0, hlx, hp', hcall⟩ : ∃ (x : Str) (w0 v0 : V), LeafPt f x ∧ G2 p = some (.tup [w0, v0]) ∧ ∀ {Q' : VK}, Q' (.str x) G2 → rStrA [v0] G2 Q' := by
           rcases leaf_cases hf1 hnm hfo with ⟨n, rfl, hn⟩ | ⟨v, rfl, hv⟩
           · exact ⟨n, _, _, .name n hn, hp, fun q => w_strAS q⟩
           · exact ⟨_, _, _, .num v hv, hp, fun q => w_strAI (small_abs (by omega)) q⟩
         walk_at "ws"
         refine hcall ?_
         refine w_cut (fun σ' G' => ∃ (l' : List Str) (t : Pt) (y7 y8 y9 y10 y11 y12 : Option V), σ' = [some (.ref a), some (.ref b), some (.ref c), some (.int m), some (.ref la), some (.ref o), some (.int parts), y7, y8, y9, y10, y11, y12, some (.ref p), some (.str t.z)] ∧ t.f = f ∧ t.r = 2 ∧ t.c = 1 ∧ PtOk t ∧ l'.length + t.b.toNat = l.length ∧ LeftAt G' la l' sp ∧ Fr [la] G2 G') ?_ fun σ' G' k => ?_
         · walk_at "ws"
           · have hl0 : 0 < l.length := by omega
             obtain ⟨x0, hx0⟩ : ∃ x0, l = [x0] := by
               rcases hlf.2 with z | z
               · rw [z] at hl0; cases hl0
               · cases l with
                 | nil => cases hl0
                 | cons x0 r =>
                   rw [← z, List.length_cons] at hsp
                   rw [List.eq_nil_of_length_eq_zero (show r.length = 0 by omega)]
                   exact ⟨x0, rfl⟩
             subst hx0
             have hspx : sp = [x0] := by
               rcases hlf.2 with z | z
               · cases z
               · exact z.symm
             refine w_pop (xs := []) ela2 ?_
             walk_at "ws"
             exact ⟨[], ⟨x0, f, 2, true, 1⟩, _, _, _, _, _, _, rfl, rfl, rfl, rfl, hfs x0 (hbd x0 (by rw [hspx]; exact List.mem_cons_self ..)), rfl, ⟨upd_same, .inl rfl⟩, Fr.put (List.mem_cons_self ..)⟩
           · exact ⟨l, ⟨x, f, 2, false, 1⟩, _, _, _, _, _, _, rfl, rfl, rfl, rfl, leaf_pt hlx, rfl, ⟨ela2, hlf.2⟩, Fr.refl⟩
           · exact ⟨l, ⟨x, f, 2, false, 1⟩, _, _, _, _, _, _, rfl, rfl, rfl, rfl, leaf_pt hlx, rfl, ⟨ela2, hlf.2⟩, Fr.refl⟩
         obtain ⟨l', t, y7, y8, y9, y10, y11, y12, rfl, htf, htr, htc, htok, hlb, hl', fr2⟩ := k
         have nela : ∀ {q : Addr} {xs : List V}, G2 q = some (.tup xs) → G' q = some (.tup xs) := fun {q xs} e => fr2 _ _ e fun m => by
           rw [List.mem_singleton.mp m, ela2] at e
           cases e
         have sm' : Same H G' := fr2.same (sm.trans sp2) fun m hm => by rw [List.mem_singleton.mp hm]; exact n0
         have eo' : G' o = some (.lst (ps.map V.ref)) := fr2 _ _ eo2 fun m => ne (List.mem_singleton.mp m).symm
         have hA' : A2 (PtAt G') ps ts := hA2.mono fun _ _ h => h.keep fun _ _ e => nela e
         have hp' : FmAt G' p f := hp.keep fun _ _ e => nela e
         walk_at "ws"
         rename_i p3 G3 n3 s3 e3
         have hpt : PtAt G3 p3 t := ⟨p, by rw [htr]; exact e3, by rw [htf]; exact hp'.same s3⟩
         exact ⟨l', ts ++ [t], _, _, _, _, _, _, _, _, _, rfl, WInv.push n1 ne sm' hl' eo' hA' s3 hpt hok htok (by rw [totalP_snoc, htc]; omega) (by omega) (by rw [nbad_snoc]; omega)⟩)
      | (obtain ⟨gs, g, qs, q, rfl, e1, hA1, hg⟩ := hst.top (by omega)
         rw [totalP_snoc] at ht hfl2
         rw [nbad_snoc] at hnb
         have hgo : ∀ t ∈ gs, PtOk t := fun f z => hok f (List.mem_append_left _ z)
         have hgg := hok g (List.mem_append_right _ (List.mem_cons_self ..))
         have hgl1 := hgg.len
         refine w_pop e1 ?_
         have e2 : (upd G o (.lst (qs.map V.ref))) o = some (.lst (qs.map V.ref)) := upd_same
         have hA2 : A2 (PtAt (upd G o (.lst (qs.map V.ref)))) qs gs := hA1.mono fun _ _ h => pt_upd e1 h
         have hg2 := pt_upd (ys := qs.map V.ref) e1 hg
         have sm2 : Same H (upd G o (.lst (qs.map V.ref))) := same_mut sm n1
         have hlf2 : LeftAt (upd G o (.lst (qs.map V.ref))) la l sp := hlf.fr (Fr.put (List.mem_cons_self ..)) ne
         have hql : (qs.map V.ref).length ≤ 100 := by rw [List.length_append] at hfl; rw [List.length_map, hA1.1]; omega
         have hgl : gs.length + 1 = ps.length := by rw [hA.1, List.length_append]; rfl
         generalize upd G o (.lst (qs.map V.ref)) = G1 at *
         walk_at "ws"
         first
           | (refine ⟨q, 2, g, rfl, hg2, by omega, fun p2 G2 hp2 s2 => ?_⟩
              obtain ⟨q2, e22, f2⟩ := id hp2
              have il := (in_ok hgg 2).len
              have e2' := s2 _ _ e2
              rw [(in_ok hgg 2).f] at f2
              walk_at "ws"
              rename_i p3 G3 n3 s3 e3 p4 G4 n4 s4 e4
              exact ⟨l, gs ++ [turnPt g], _, _, _, _, _, _, _, _, _, rfl, WInv.push n1 ne sm2 hlf2 e2 hA2 ((s2.trans s3).trans s4) ⟨p3, e4, q2, s4 _ _ e3, (f2.same s3).same s4⟩ hgo (turn_ok hgg) (by rw [totalP_snoc]; show ((totalP gs + (g.c + 1) + 1 : Nat) : Int) + 1 = _; omega) (by omega) (by rw [nbad_snoc]; exact hnb)⟩)
           | (refine ⟨q, 3, g, rfl, hg2, by omega, fun p2 G2 hp2 s2 => ?_⟩
              have e2' := s2 _ _ e2
              walk_at "ws"
              exact ⟨l, gs ++ [heldPt g], _, _, _, _, _, _, _, _, _, rfl, WInv.push n1 ne sm2 hlf2 e2 hA2 s2 hp2 hgo (held_ok hgg) (by rw [totalP_snoc]; show ((totalP gs + (g.c + 1) + 1 : Nat) : Int) + 1 = _; omega) (by omega) (by rw [nbad_snoc, (held_b g).1]; exact hnb)⟩)
           | (obtain ⟨ks, f, rs, r, rfl, e3, hA3, hf⟩ := StackPt.top ⟨qs, e2, hA2⟩ (by rw [List.length_map] at *; omega)
              rw [totalP_snoc] at ht hfl2
              rw [nbad_snoc] at hnb
              have hko : ∀ t ∈ ks, PtOk t := fun f z => hgo f (List.mem_append_left _ z)
              have hff := hgo f (List.mem_append_right _ (List.mem_cons_self ..))
              have hgl2 := hff.len
              refine w_pop e3 ?_
              have e4 : (upd G1 o (.lst (rs.map V.ref))) o = some (.lst (rs.map V.ref)) := upd_same
              have hA4 : A2 (PtAt (upd G1 o (.lst (rs.map V.ref)))) rs ks := hA3.mono fun _ _ h => pt_upd e3 h
              have hf4 := pt_upd (ys := rs.map V.ref) e3 hf
              have hg4 := pt_upd (ys := rs.map V.ref) e3 hg2
              have sm4 : Same H (upd G1 o (.lst (rs.map V.ref))) := same_mut sm2 n1
              have hlf4 : LeftAt (upd G1 o (.lst (rs.map V.ref))) la l sp := hlf2.fr (Fr.put (List.mem_cons_self ..)) ne
              have hrl : (rs.map V.ref).length ≤ 100 := by rw [List.length_append] at hgl; rw [List.length_map, hA3.1]; rw [List.length_map] at hpl; omega
              generalize upd G1 o (.lst (rs.map V.ref)) = G2 at *
              walk_at "ws"
              refine ⟨_, r, q, f, g, rfl, hf4, hg4, by omega, by omega, fun p G3 hp sp3 => ?_⟩
              have eo3 := sp3 _ _ e4
              walk_at "ws"
              have on := or_nat (b := f.b) (c := g.b) (by omega)
              exact ⟨l, ks ++ [joinPt _ f g], _, _, _, _, _, _, _, _, _, rfl, WInv.push n1 ne sm4 hlf4 e4 hA4 sp3 hp hko (join_ok _ hff hgg on.1) (by rw [totalP_snoc, (join_b _ f g).2]; omega) (by omega) (by rw [nbad_snoc, (join_b _ f g).1, on.2]; omega)⟩))
  · obtain ⟨l, ts, parts, y7, y8, y9, y10, y11, y12, y13, y14, rfl, I⟩ := q
    refine w_cut (fun σ' G => ∃ (ts : List Pt) (y12 : Option V), σ' = [some (.ref a), some (.ref b), some (.ref c), some (.int m), some (.ref la), some (.ref o), some (.int parts), y7, y8, y9, y10, y11, y12, y13, y14] ∧ 0 < ts.length ∧ ∃ pp, WInv H G la o l sp ts pp (m + 1)) ?_ fun σ' G k => ?_
    · obtain ⟨ps, eo, hA⟩ := id I.st
      have hpl : (ps.map V.ref).length = ts.length := by rw [List.length_map, hA.1]
      walk_at "ws"
      · rename_i p2 G2 n2 s2 e22 p3 G3 n3 s3 e33
        have hps : ps = [] := by cases ps with
          | nil => rfl
          | cons x y => exfalso; simp only [List.map_cons, List.length_cons] at *; omega
        subst hps
        have hts : ts = [] := by cases ts with
          | nil => rfl
          | cons x y => exfalso; simp only [List.map_nil, List.length_nil, List.length_cons] at hpl; omega
        subst hts
        have h0 := leaf_pt (.num 0 ⟨by decide, by decide⟩)
        rw [show Str.ofString (toString (0 : Int)) = Str.ofString "0" by decide +kernel] at h0
        exact ⟨[] ++ [⟨"0", .num 0, 2, false, 1⟩], _, rfl, (by rw [List.nil_append]; exact Nat.succ_pos 0), 3, WInv.push (parts := 3) n1 ne I.sm I.left (qs := []) (gs := []) eo A2.nil (s2.trans s3) (t := ⟨"0", .num 0, 2, false, 1⟩) ⟨p2, e33, s3 _ _ e22⟩ (fun g z => by cases z) h0 rfl (by omega) I.nb⟩
      · exact ⟨ts, _, rfl, by omega, parts, I.sm, I.left, I.st, I.tot, by have := I.le; omega, I.ok, I.nb⟩
    clear I
    obtain ⟨ts, y12, rfl, hfp, pp, I⟩ := k
    refine ⟨fun k σ' G => ∃ (ts : List Pt) (y12 : Option V), σ' = [some (.ref a), some (.ref b), some (.ref c), some (.int m), some (.ref la), some (.ref o), some (.int parts), y7, y8, y9, y10, y11, y12, y13, y14] ∧ ts.length = k ∧ 0 < k ∧ ∃ pp, WInv H G la o l sp ts pp (m + 1), ⟨ts.length, ts, _, rfl, rfl, hfp, pp, I⟩, fun k σ' G q => ?_⟩
    clear I hfp
    obtain ⟨ts, y12, rfl, hk, hkp, pp, I⟩ := q
    have hst := I.st
    have ht := I.tot
    have hpm := I.le
    have hok := I.ok
    have hnb := I.nb
    have hlf := I.left
    have sm := I.sm
    obtain ⟨ps, eo, hA⟩ := id hst
    have hpl : (ps.map V.ref).length = ts.length := by rw [List.length_map, hA.1]
    have hfl : ts.length ≤ 101 := by unfold totalP at ht; omega
    walk_at "ws"
    · refine ⟨fun σ' H' => ∃ m', m' < k ∧ _, fun _ _ z => z, ?_⟩
      walk_at "ws"
      obtain ⟨gs, g, qs, q, rfl, e1, hA1, hg⟩ := hst.top (by omega)
      rw [totalP_snoc] at ht
      rw [nbad_snoc] at hnb
      have hgo : ∀ t ∈ gs, PtOk t := fun f z => hok f (List.mem_append_left _ z)
      have hgg := hok g (List.mem_append_right _ (List.mem_cons_self ..))
      have hgl1 := hgg.len
      refine w_pop e1 ?_
      have e2 : (upd G o (.lst (qs.map V.ref))) o = some (.lst (qs.map V.ref)) := upd_same
      have hA2 : A2 (PtAt (upd G o (.lst (qs.map V.ref)))) qs gs := hA1.mono fun _ _ h => pt_upd e1 h
      have hg2 := pt_upd (ys := qs.map V.ref) e1 hg
      have sm2 : Same H (upd G o (.lst (qs.map V.ref))) := same_mut sm n1
      have hlf2 : LeftAt (upd G o (.lst (qs.map V.ref))) la l sp := hlf.fr (Fr.put (List.mem_cons_self ..)) ne
      have hql : (qs.map V.ref).length ≤ 101 := by rw [List.length_append] at hfl; rw [List.length_map, hA1.1]; omega
      have hgl : gs.length + 1 = ps.length := by rw [hA.1, List.length_append]; rfl
      have hgk : gs.length + 1 = k := by rw [← hk, List.length_append]; rfl
      generalize upd G o (.lst (qs.map V.ref)) = G1 at *
      walk_at "ws"
      obtain ⟨ks, f, rs, r, rfl, e3, hA3, hf⟩ := StackPt.top ⟨qs, e2, hA2⟩ (by rw [List.length_map] at *; omega)
      rw [totalP_snoc] at ht
      rw [nbad_snoc] at hnb
      have hko : ∀ t ∈ ks, PtOk t := fun f z => hgo f (List.mem_append_left _ z)
      have hff := hgo f (List.mem_append_right _ (List.mem_cons_self ..))
      have hgl2 := hff.len
      refine w_pop e3 ?_
      have e4 : (upd G1 o (.lst (rs.map V.ref))) o = some (.lst (rs.map V.ref)) := upd_same
      have hA4 : A2 (PtAt (upd G1 o (.lst (rs.map V.ref)))) rs ks := hA3.mono fun _ _ h => pt_upd e3 h
      have hf4 := pt_upd (ys := rs.map V.ref) e3 hf
      have hg4 := pt_upd (ys := rs.map V.ref) e3 hg2
      have sm4 : Same H (upd G1 o (.lst (rs.map V.ref))) := same_mut sm2 n1
      have hlf4 : LeftAt (upd G1 o (.lst (rs.map V.ref))) la l sp := hlf2.fr (Fr.put (List.mem_cons_self ..)) ne
      rw [List.length_append, List.length_singleton] at hgl hgk
      have hrl : (rs.map V.ref).length ≤ 101 := by rw [List.length_map, hA3.1]; rw [List.length_map] at hpl; omega
      generalize upd G1 o (.lst (rs.map V.ref)) = G2 at *
      walk_at "ws"
      refine ⟨_, r, q, f, g, rfl, hf4, hg4, by omega, by omega, fun p G3 hp sp3 => ?_⟩
      have eo3 := sp3 _ _ e4
      walk_at "ws"
      have on := or_nat (b := f.b) (c := g.b) (by omega)
      exact ⟨ks.length + 1, by omega, ks ++ [joinPt _ f g], _, rfl, by rw [List.length_append]; rfl, by omega, pp, WInv.push n1 ne sm4 hlf4 e4 hA4 sp3 hp hko (join_ok _ hff hgg on.1) (by rw [totalP_snoc, (join_b _ f g).2]; omega) (by omega) (by rw [nbad_snoc, (join_b _ f g).1, on.2]; omega)⟩
    · obtain ⟨gs, g, qs, q, rfl, e1, hA1, hg⟩ := hst.top (by omega)
      rw [totalP_snoc] at ht
      rw [nbad_snoc] at hnb
      rw [List.length_append, List.length_singleton] at hk hpl
      have hgs : gs = [] := List.eq_nil_of_length_eq_zero (by omega)
      have hq : qs = [] := by
        have := hA1.1
        cases qs with
        | nil => rfl
        | cons x y => exfalso; simp only [List.length_cons] at this; omega
      subst hq
      subst hgs
      have e1 : G o = some (.lst [.ref q]) := e1
      have hgg := hok g (List.mem_append_right _ (List.mem_cons_self ..))
      have ela := hlf.1
      have ec := sm _ _ hc
      have l1 : (l.map V.str).length = l.length := List.length_map ..
      have l2 : (sp.map V.str).length = sp.length := List.length_map ..
      have n0 : nbad [] = 0 := rfl
      refine w_ixL (SqL.of e1) rfl ?_
      walk_at "ws"
      rename_i p5 G5 n5 s5 e5
      have hdec : decide (((l.map V.str).length : Int) < ((sp.map V.str).length : Int)) = g.b := by
        rw [l1, l2]
        cases hgb : g.b with
        | true =>
          rw [hgb] at hnb
          have hnb : l.length + (nbad [] + 1) = sp.length := hnb
          exact decide_eq_true (by omega)
        | false =>
          rw [hgb] at hnb
          have hnb : l.length + (nbad [] + 0) = sp.length := hnb
          exact decide_eq_false (by omega)
      rw [hdec] at e5
      refine h g p5 q G5 (by have : totalP [] = 0 := rfl; omega) hgg (fun z => ?_) (sm.trans s5) (hg.same s5) e5
      cases hgb : g.b with
      | false => rfl
      | true =>
        rw [hgb, z] at hnb
        have hnb : l.length + (nbad [] + 1) = 0 := hnb
        omega

/-! the law k38 -/
def sp_law (K : PySem.W.Frag) : Sp := fun vs H Q _ => ∃ (a : Addr) (ns : List Int), vs = [.ref a] ∧ SqL K H a (ns.map V.int) ∧ ns.length ≤ 63 ∧ (∀ z ∈ ns, Builtin.Int.intBits z ≤ 1048576) ∧ ∀ H', Q (.bl true) H'
theorem ok_law (T : Top K mg) : FnOk P w K mg base CX0 189 T.a_law T.d_law ["_law_script"] (sp_law K) := by
  refine T.f_law.ok sc_law (fun vs H Q E h => ?_) (fun cdv A outer s H vs Q E hr h => ?_)
  · obtain ⟨a, ns, rfl, _⟩ := h
    rfl
  obtain ⟨a, ns, rfl, h⟩ := h
  refine ⟨_, (pss_cons (ps_set (i := 1) sc_law.nd rfl (.inl rfl) (pe_slice sl_list (pv 0) po_none (po_some pe_int)))
      (pss_cons (ps_set (i := 2) sc_law.nd rfl (.inl rfl) pe_int)
      (Evl.pss_cut (ps_if (pt_cmpR op_gt (pe_callB (c_lenK K) (by rfl) T.z_len PySem.boot_len (pa_cons (pv 1) pa_nil)) pe_int (nomark _)) (pss_one (ps_set (i := 2) sc_law.nd rfl (.inl rfl) (pe_ix (ix_listK K) (pv 1) pe_int (fun _ _ => rfl)))) pss_nil)
      (pss_cons (ps_set (i := 3) sc_law.nd rfl (.inl rfl) (pe_call0 (ok_law_bad T) (hr.mono (by decide)) (by rfl) T.g_law_bad T.f_law_bad.kp T.b_law_bad .nil pass0))
      (pss_cons (ps_set (i := 4) sc_law.nd rfl (.inl rfl) (pe_op op_mod (pe_call (ok_law_mixed T) (hr.mono (by decide)) (by rfl) T.g_law_mixed T.f_law_mixed.kp T.b_law_mixed .nil pass0 (pa_cons (pv 2) (pa_cons pe_int pa_nil))) (pe_callB (c_lenK K) (by rfl) T.z_len PySem.boot_len (pa_cons (pv 3) pa_nil))))
      (Evl.pss_cut (ps_if (PW.pt (pw_or (pt_not (pt_val (pe_call (ok_law_refused T) (hr.mono (by decide)) (by rfl) T.g_law_refused T.f_law_refused.kp T.b_law_refused .nil pass0 (pa_cons pe_str pa_nil)))) (pw_or1 (pt_not (pt_val (pe_call (ok_law_refused T) (hr.mono (by decide)) (by rfl) T.g_law_refused T.f_law_refused.kp T.b_law_refused .nil pass0 (pa_cons (pe_ix (ix_listK K) (pv 3) (pv 4) (fun _ _ => rfl)) pa_nil))))))) (pss_one (ps_ret pe_bl)) pss_nil)
      (pss_cons (ps_asg (pe_call (ok_law_written T) (hr.mono (by decide)) (by rfl) T.g_law_written T.f_law_written.kp T.b_law_written .nil pass0 (pa_cons (pv 1) (pa_cons (pe_call (ok_law_names T) (hr.mono (by decide)) (by rfl) T.g_law_names T.f_law_names.kp T.b_law_names .nil pass0 (pa_cons (pv 2) pa_nil)) (pa_cons (pe_lst (pa_cons (pe_ix (ix_listK K) (pv 3) (pv 4) (fun _ _ => rfl)) pa_nil)) (pa_cons pe_int pa_nil))))) (pg_tup (by rfl) (pgs_cons (pg_name (i := 5) sc_law.nd rfl (.inl rfl)) (pgs_cons (pg_name (i := 6) sc_law.nd rfl (.inl rfl)) pgs_nil))))
      (Evl.pss_cut (ps_if (PW.pt (pw_and (pt_val (pv 6)) (pw_and1 (pt_not (pt_val (pe_call (ok_law_refused T) (hr.mono (by decide)) (by rfl) T.g_law_refused T.f_law_refused.kp T.b_law_refused .nil pass0 (pa_cons (pe_ix (ix_tupK K) (pv 5) pe_int (fun _ _ => rfl)) pa_nil))))))) (pss_one (ps_ret pe_bl)) pss_nil)
      (pss_cons (ps_asg (pe_call (ok_law_written T) (hr.mono (by decide)) (by rfl) T.g_law_written T.f_law_written.kp T.b_law_written .nil pass0 (pa_cons (pv 1) (pa_cons (pe_call (ok_law_names T) (hr.mono (by decide)) (by rfl) T.g_law_names T.f_law_names.kp T.b_law_names .nil pass0 (pa_cons (pv 2) pa_nil)) (pa_cons (pe_lst pa_nil) (pa_cons pe_int pa_nil))))) (pg_tup (by rfl) (pgs_cons (pg_name (i := 5) sc_law.nd rfl (.inl rfl)) (pgs_cons (pg_name (i := 6) sc_law.nd rfl (.inl rfl)) pgs_nil))))
      (pss_cons (ps_set (i := 7) sc_law.nd rfl (.inl rfl) (pe_call (ok_law_joined T) (hr.mono (by decide)) (by rfl) T.g_law_joined T.f_law_joined.kp T.b_law_joined .nil pass0 (pa_cons (pe_op op_mod (pv 2) pe_int) (pa_cons (pv 5) (pa_cons (pe_tup (pa_cons (pe_ix (ix_listK K) (pv 3) (pv 4) (fun _ _ => rfl)) (pa_cons (pe_tup (pa_cons pe_str (pa_cons pe_int pa_nil))) (pa_cons pe_int pa_nil)))) pa_nil)))))
      (pss_cons (ps_set (i := 8) sc_law.nd rfl (.inl rfl) (pe_call (ok_law_joined T) (hr.mono (by decide)) (by rfl) T.g_law_joined T.f_law_joined.kp T.b_law_joined .nil pass0 (pa_cons (pe_op op_mod (pe_op op_fdiv (pv 2) pe_int) pe_int) (pa_cons (pe_tup (pa_cons (pe_ix (ix_listK K) (pv 3) (pv 4) (fun _ _ => rfl)) (pa_cons (pe_tup (pa_cons pe_str (pa_cons pe_int pa_nil))) (pa_cons pe_int pa_nil)))) (pa_cons (pv 5) pa_nil)))))
      (pss_one (ps_ret (pe_and (pe_call (ok_law_refused T) (hr.mono (by decide)) (by rfl) T.g_law_refused T.f_law_refused.kp T.b_law_refused .nil pass0 (pa_cons (pe_ix (ix_tupK K) (pv 7) pe_int (fun _ _ => rfl)) pa_nil)) (pe_one (pe_call (ok_law_refused T) (hr.mono (by decide)) (by rfl) T.g_law_refused T.f_law_refused.kp T.b_law_refused .nil pass0 (pa_cons (pe_ix (ix_tupK K) (pv 8) pe_int (fun _ _ => rfl)) pa_nil))))))))))))))))), ?_⟩
  try dsimp only [cxOf, Cx.nox, Cx.wish]
  simp only [L2.start, List.map_cons, List.map_nil, List.length_cons, List.length_nil, Nat.reduceAdd, Nat.reduceSub, List.replicate_succ, List.replicate_zero, List.cons_append, List.nil_append]
  obtain ⟨hS, hlen, hb, h⟩ := h
  have hlm : (ns.map V.int).length = ns.length := List.length_map ..
  walk_at "ws"
  rename_i pc H1 n1 s1 e1
  have e0 : cutV (ns.map V.int) none (some 63) = (ns.take 63).map V.int := by
    rw [show (63 : Int) = ((63 : Nat) : Int) from rfl, cut_upto, ← List.map_take]
  rw [e0] at e1
  have hml : (ns.take 63).length ≤ 63 := by rw [List.length_take]; omega
  have hmb : ∀ z ∈ ns.take 63, Builtin.Int.intBits z ≤ 1048576 := fun z hz => hb z (List.mem_of_mem_take hz)
  generalize ns.take 63 = ms at *
  have hlm2 : (ms.map V.int).length = ms.length := List.length_map ..
  refine w_cut (fun σ' G => ∃ f : Int, σ' = [some (.ref a), some (.ref pc), some (.int f), none, none, none, none, none, none] ∧ G = H1 ∧ Builtin.Int.intBits f ≤ 1048576) ?_ fun σ' G k => ?_
  · walk_at "ws"
    · have hpos : 0 < ms.length := by omega
      refine w_ixL (SqL.of e1) (get_int (i := 0) hpos) ?_
      walk_at "ws"
      exact ⟨_, rfl, rfl, hmb _ (List.getElem_mem hpos)⟩
    · exact ⟨_, rfl, rfl, by decide⟩
  obtain ⟨f, rfl, rfl, hfb⟩ := k
  walk_at "ws"
  refine ⟨rfl, fun pb G2 e2 s2 => ?_⟩
  walk_at "ws"
  rename_i v hv v0 v1
  have hb20 : (badL.map V.str).length = badL.length := List.length_map ..
  have hb20' : badL.length = 20 := by decide
  obtain ⟨x, hx, mx⟩ := get_strN (ns := badL) (i := v % ((badL.map V.str).length : Int)) (by rw [hb20, hb20']; exact ⟨Int.emod_nonneg _ (by decide), Int.emod_lt_of_pos _ (by decide)⟩)
  have hbx := (badL_ok mx).1
  have xl := hbx.len
  have xw := hbx.wg
  have xb := hbx.bad rfl
  have xl : x.length ≤ 20 * 1 := xl
  have xw : wgt x.cps.toList ≤ 2 * 1 := xw
  have xb : Bad x.cps.toList := xb
  generalize v % ((badL.map V.str).length : Int) = at4 at *
  have e0 : (Str.ofString "").cps.toList = [] := by decide +kernel
  refine w_cut (fun σ' G => σ' = [some (.ref a), some (.ref pc), some (.int f), some (.ref pb), some (.int at4), none, none, none, none] ∧ Same G2 G) ?_ fun σ' G3 k => ?_
  · walk_at "ws"
    refine ⟨_, rfl, by decide, by rw [e0]; decide, by rw [e0]; exact empty_not, fun H3 s3 => ?_⟩
    have e3 := s3 _ _ e2
    walk_at "ws"
    refine w_ixL (SqL.of e3) hx ?_
    walk_at "ws"
    refine ⟨x, rfl, by omega, by omega, xb.not, fun H4 s4 => ?_⟩
    walk_at "ws"
    exact ⟨rfl, s3.trans s4⟩
  obtain ⟨rfl, s3⟩ := k
  have ec3 := s3 _ _ (s2 _ _ e1)
  have eb3 := s3 _ _ e2
  walk_at "ws"
  refine ⟨f, rfl, hfb, fun nm pn G4 hn5 hnm n4 s4 e4 => ?_⟩
  have ec4 := s4 _ _ ec3
  have eb4 := s4 _ _ eb3
  walk_at "ws"
  refine w_ixL (SqL.of eb4) hx ?_
  walk_at "ws"
  rename_i ps G5 n5 s5 e5
  have ec5 := s5 _ _ ec4
  have eb5 := s5 _ _ eb4
  refine ⟨pc, pn, ps, ms, nm, [x], 25, rfl, SqL.of ec5, hmb, by omega, SqL.of (s5 _ _ e4), by omega, hnm, by decide, by decide, e5, Nat.le_refl _, fun y hy => by rw [List.mem_singleton.mp hy]; exact mx, fun t p q G6 htc htok _ s6 hpt ep => ?_⟩
  have ec6 := s6 _ _ ec5
  have eb6 := s6 _ _ eb5
  obtain ⟨qf, eq, hqf⟩ := id hpt
  have tl := htok.len
  have tw := htok.wg
  walk_at "ws"
  refine w_cut (fun σ' G => σ' = [some (.ref a), some (.ref pc), some (.int f), some (.ref pb), some (.int at4), some (.ref q), some (.bl t.b), none, none] ∧ Same G6 G) ?_ fun σ' G7 k => ?_
  · cases hb : t.b with
    | false =>
      walk_at "ws"
      exact ⟨rfl, Same.refl _⟩
    | true =>
      walk_at "ws"
      refine ⟨t.z, rfl, by omega, by omega, (htok.bad hb).not, fun H7 s7 => ?_⟩
      walk_at "ws"
      exact ⟨rfl, s7⟩
  obtain ⟨rfl, s7⟩ := k
  clear hpt hqf eq
  have ec7 := s7 _ _ ec6
  have eb7 := s7 _ _ eb6
  walk_at "ws"
  refine ⟨f, rfl, hfb, fun nm pn G8 hn5 hnm n8 s8 e8 => ?_⟩
  have ec8 := s8 _ _ ec7
  have eb8 := s8 _ _ eb7
  walk_at "ws"
  rename_i ps2 G9 n9 s9 e9
  have ec9 := s9 _ _ ec8
  have eb9 := s9 _ _ eb8
  refine ⟨pc, pn, ps2, ms, nm, [], 25, rfl, SqL.of ec9, hmb, by omega, SqL.of (s9 _ _ e8), by omega, hnm, by decide, by decide, e9, Nat.zero_le _, (fun y hy => by cases hy), fun u p2 r Ga huc huok hub sa hpt ep => ?_⟩
  have ebA := sa _ _ eb9
  have ul := huok.len
  have uw := huok.wg
  have hub := hub rfl
  walk_at "ws"
  refine w_ixL (SqL.of ebA) hx ?_
  walk_at "ws"
  rename_i b1 Gb nb sb1 fb1 b2 Gc nc sc fc
  have j1 := join_ok (f % 3) huok hbx (by rw [hub]; rintro ⟨z, _⟩; cases z)
  have j1b := join_b (f % 3) u ⟨x, .num 0, 2, true, 1⟩
  refine ⟨_, r, b2, u, ⟨x, .num 0, 2, true, 1⟩, rfl, (hpt.same sb1).same sc, ⟨b1, fc, sc _ _ fb1⟩, by omega, by show x.length ≤ 50000; omega, fun p3 Gd hd sd => ?_⟩
  have ebD := sd _ _ (sc _ _ (sb1 _ _ ebA))
  have hptD := ((hpt.same sb1).same sc).same sd
  walk_at "ws"
  refine w_ixL (SqL.of ebD) hx ?_
  walk_at "ws"
  rename_i b3 Ge ne se fe b4 Gf nf sf ff
  have j2 := join_ok (f / 3 % 3) hbx huok (by rw [hub]; rintro ⟨_, z⟩; cases z)
  have j2b := join_b (f / 3 % 3) ⟨x, .num 0, 2, true, 1⟩ u
  refine ⟨_, b4, r, ⟨x, .num 0, 2, true, 1⟩, u, rfl, ⟨b3, ff, sf _ _ fe⟩, (hptD.same se).same sf, by show x.length ≤ 50000; omega, by omega, fun p4 Gg hg sg => ?_⟩
  obtain ⟨w1, ed, _⟩ := ((hd.same se).same sf).same sg
  obtain ⟨w2, eg, _⟩ := hg
  have l1 := j1.len
  have g1 := j1.wg
  have l2 := j2.len
  have g2 := j2.wg
  have c1 : (joinPt (f % 3) u ⟨x, .num 0, 2, true, 1⟩).c = u.c + 1 + 1 := j1b.2
  have c2 : (joinPt (f / 3 % 3) ⟨x, .num 0, 2, true, 1⟩ u).c = 1 + u.c + 1 := j2b.2
  have x1 := j1.bad (j1b.1.trans (Bool.or_true _))
  have x2 := j2.bad (j2b.1.trans (Bool.true_or _))
  generalize joinPt (f % 3) u ⟨x, .num 0, 2, true, 1⟩ = ja at *
  generalize joinPt (f / 3 % 3) ⟨x, .num 0, 2, true, 1⟩ u = jb at *
  walk_at "ws"
  refine ⟨ja.z, rfl, by omega, by omega, x1.not, fun Gh sh => ?_⟩
  have eg := sh _ _ eg
  walk_at "ws"
  refine ⟨jb.z, rfl, by omega, by omega, x2.not, fun Gi si => ?_⟩
  exact h _

end
theorem end_sp_law {K : PySem.W.Frag} {H : Hp} {a : Addr} {ns : List Int} (hl : ns.length ≤ 63) (hb : ∀ z ∈ ns, Builtin.Int.intBits z ≤ 1048576) (_ : Only H) (hS : SqL K H a (ns.map V.int)) : sp_law K [.ref a] H (fun v _ => v = .bl true) fun _ _ _ => False :=
  ⟨a, ns, rfl, hS, hl, hb, fun _ => rfl⟩
theorem all_mk {l : PySem.W.OpenLaw} {w : World} {K : PySem.W.Frag} {h : Heap} {mg : Str → Option Value} {fa ha0 ha1 ha2 ha3 ha4 ha5 ha6 ha7 ha8 ha9 ha10 ha11 ha12 ha13 ha14 ha15 c_PressError c_TooFew c_TooMany c_TooWide c_NoFormula c_NoName c_NoLine c_NoCircuit c_OutOfWidth c_Reader : Addr} (X : K.In h) (G : h.Ns mainGlobals mg) (hfa : mg "law" = some (.ref fa))
    {tk_FIGURES : Tok} {tk_MOST : Tok} {tk_SMALL : Tok} {od0 an0 od1 an1 od2 an2 od3 an3 od4 an4 od5 an5 od6 an6 od7 an7 od8 an8 od9 an9 od10 an10 od11 an11 od12 an12 od13 an13 od14 an14 od15 an15 : Option Addr} {shl0 shl1 shl2 shl3 shl4 shl5 shl6 shl7 shl8 shl9 shl10 shl11 shl12 shl13 shl14 shl15 : Array (Option Value)} {oc0 kV0 dc0 pm0 cd0 ct0 oc1 kV1 dc1 pm1 cd1 ct1 oc2 kV2 dc2 pm2 cd2 ct2 oc3 kV3 dc3 pm3 cd3 ct3 oc4 kV4 dc4 pm4 cd4 ct4 oc5 kV5 dc5 pm5 cd5 ct5 oc6 kV6 dc6 pm6 cd6 ct6 oc7 kV7 dc7 pm7 cd7 ct7 oc8 kV8 dc8 pm8 cd8 ct8 oc9 kV9 dc9 pm9 cd9 ct9 oc10 kV10 dc10 pm10 cd10 ct10 oc11 kV11 dc11 pm11 cd11 ct11 oc12 kV12 dc12 pm12 cd12 ct12 oc13 kV13 dc13 pm13 cd13 ct13 oc14 kV14 dc14 pm14 cd14 ct14 oc15 kV15 dc15 pm15 cd15 ct15 : Value}
    (hg0 : PySem.W.findIn K (.ref c_Reader) "__init__" = some (some (.ref ha0)))
    (hi0 : PySem.W.isFn K (.ref ha0) = true)
    (hl0 : K.lookup ha0 = some ⟨oc0, od0, .func (PySem.W.fnOf "__init__" "Reader.__init__" (defArgs s_Reader__init) (defBody s_Reader__init) (defScope s_Reader__init) .none kV0 dc0 pm0 an0 cd0 ct0), shl0⟩)
    (hk0 : PySem.W.codeIn K cd0 "Reader.__init__" = true)
    (hp0 : PySem.W.keepIn K (.ref ha0) = true)
    (hg1 : PySem.W.findIn K (.ref c_Reader) "here" = some (some (.ref ha1)))
    (hi1 : PySem.W.isFn K (.ref ha1) = true)
    (hl1 : K.lookup ha1 = some ⟨oc1, od1, .func (PySem.W.fnOf "here" "Reader.here" (defArgs s_Reader_here) (defBody s_Reader_here) (defScope s_Reader_here) .none kV1 dc1 pm1 an1 cd1 ct1), shl1⟩)
    (hk1 : PySem.W.codeIn K cd1 "Reader.here" = true)
    (hp1 : PySem.W.keepIn K (.ref ha1) = true)
    (hg2 : PySem.W.findIn K (.ref c_Reader) "run_of" = some (some (.ref ha2)))
    (hi2 : PySem.W.isFn K (.ref ha2) = true)
    (hl2 : K.lookup ha2 = some ⟨oc2, od2, .func (PySem.W.fnOf "run_of" "Reader.run_of" (defArgs s_Reader_run_of) (defBody s_Reader_run_of) (defScope s_Reader_run_of) .none kV2 dc2 pm2 an2 cd2 ct2), shl2⟩)
    (hk2 : PySem.W.codeIn K cd2 "Reader.run_of" = true)
    (hp2 : PySem.W.keepIn K (.ref ha2) = true)
    (hg3 : PySem.W.findIn K (.ref c_Reader) "total" = some (some (.ref ha3)))
    (hi3 : PySem.W.isFn K (.ref ha3) = true)
    (hl3 : K.lookup ha3 = some ⟨oc3, od3, .func (PySem.W.fnOf "total" "Reader.total" (defArgs s_Reader_total) (defBody s_Reader_total) (defScope s_Reader_total) .none kV3 dc3 pm3 an3 cd3 ct3), shl3⟩)
    (hk3 : PySem.W.codeIn K cd3 "Reader.total" = true)
    (hp3 : PySem.W.keepIn K (.ref ha3) = true)
    (hg4 : PySem.W.findIn K (.ref c_Reader) "product" = some (some (.ref ha4)))
    (hi4 : PySem.W.isFn K (.ref ha4) = true)
    (hl4 : K.lookup ha4 = some ⟨oc4, od4, .func (PySem.W.fnOf "product" "Reader.product" (defArgs s_Reader_product) (defBody s_Reader_product) (defScope s_Reader_product) .none kV4 dc4 pm4 an4 cd4 ct4), shl4⟩)
    (hk4 : PySem.W.codeIn K cd4 "Reader.product" = true)
    (hp4 : PySem.W.keepIn K (.ref ha4) = true)
    (hg5 : PySem.W.findIn K (.ref c_Reader) "piece" = some (some (.ref ha5)))
    (hi5 : PySem.W.isFn K (.ref ha5) = true)
    (hl5 : K.lookup ha5 = some ⟨oc5, od5, .func (PySem.W.fnOf "piece" "Reader.piece" (defArgs s_Reader_piece) (defBody s_Reader_piece) (defScope s_Reader_piece) .none kV5 dc5 pm5 an5 cd5 ct5), shl5⟩)
    (hk5 : PySem.W.codeIn K cd5 "Reader.piece" = true)
    (hp5 : PySem.W.keepIn K (.ref ha5) = true)
    (hg6 : PySem.W.nsIn K mainGlobals "read" = some (some (.ref ha6)))
    (hl6 : K.lookup ha6 = some ⟨oc6, od6, .func (PySem.W.fnOf "read" "read" (defArgs s_read) (defBody s_read) (defScope s_read) .none kV6 dc6 pm6 an6 cd6 ct6), shl6⟩)
    (hk6 : PySem.W.codeIn K cd6 "read" = true)
    (hp6 : PySem.W.keepIn K (.ref ha6) = true)
    (hg7 : PySem.W.nsIn K mainGlobals "_law_mixed" = some (some (.ref ha7)))
    (hl7 : K.lookup ha7 = some ⟨oc7, od7, .func (PySem.W.fnOf "_law_mixed" "_law_mixed" (defArgs s_law_mixed) (defBody s_law_mixed) (defScope s_law_mixed) .none kV7 dc7 pm7 an7 cd7 ct7), shl7⟩)
    (hk7 : PySem.W.codeIn K cd7 "_law_mixed" = true)
    (hp7 : PySem.W.keepIn K (.ref ha7) = true)
    (hg8 : PySem.W.nsIn K mainGlobals "_law_names" = some (some (.ref ha8)))
    (hl8 : K.lookup ha8 = some ⟨oc8, od8, .func (PySem.W.fnOf "_law_names" "_law_names" (defArgs s_law_names) (defBody s_law_names) (defScope s_law_names) .none kV8 dc8 pm8 an8 cd8 ct8), shl8⟩)
    (hk8 : PySem.W.codeIn K cd8 "_law_names" = true)
    (hp8 : PySem.W.keepIn K (.ref ha8) = true)
    (hg9 : PySem.W.nsIn K mainGlobals "_law_leaf" = some (some (.ref ha9)))
    (hl9 : K.lookup ha9 = some ⟨oc9, od9, .func (PySem.W.fnOf "_law_leaf" "_law_leaf" (defArgs s_law_leaf) (defBody s_law_leaf) (defScope s_law_leaf) .none kV9 dc9 pm9 an9 cd9 ct9), shl9⟩)
    (hk9 : PySem.W.codeIn K cd9 "_law_leaf" = true)
    (hp9 : PySem.W.keepIn K (.ref ha9) = true)
    (hg10 : PySem.W.nsIn K mainGlobals "_law_in" = some (some (.ref ha10)))
    (hl10 : K.lookup ha10 = some ⟨oc10, od10, .func (PySem.W.fnOf "_law_in" "_law_in" (defArgs s_law_in) (defBody s_law_in) (defScope s_law_in) .none kV10 dc10 pm10 an10 cd10 ct10), shl10⟩)
    (hk10 : PySem.W.codeIn K cd10 "_law_in" = true)
    (hp10 : PySem.W.keepIn K (.ref ha10) = true)
    (hg11 : PySem.W.nsIn K mainGlobals "_law_joined" = some (some (.ref ha11)))
    (hl11 : K.lookup ha11 = some ⟨oc11, od11, .func (PySem.W.fnOf "_law_joined" "_law_joined" (defArgs s_law_joined) (defBody s_law_joined) (defScope s_law_joined) .none kV11 dc11 pm11 an11 cd11 ct11), shl11⟩)
    (hk11 : PySem.W.codeIn K cd11 "_law_joined" = true)
    (hp11 : PySem.W.keepIn K (.ref ha11) = true)
    (hg12 : PySem.W.nsIn K mainGlobals "_law_written" = some (some (.ref ha12)))
    (hl12 : K.lookup ha12 = some ⟨oc12, od12, .func (PySem.W.fnOf "_law_written" "_law_written" (defArgs s_law_written) (defBody s_law_written) (defScope s_law_written) .none kV12 dc12 pm12 an12 cd12 ct12), shl12⟩)
    (hk12 : PySem.W.codeIn K cd12 "_law_written" = true)
    (hp12 : PySem.W.keepIn K (.ref ha12) = true)
    (hg13 : PySem.W.nsIn K mainGlobals "_law_bad" = some (some (.ref ha13)))
    (hl13 : K.lookup ha13 = some ⟨oc13, od13, .func (PySem.W.fnOf "_law_bad" "_law_bad" (defArgs s_law_bad) (defBody s_law_bad) (defScope s_law_bad) .none kV13 dc13 pm13 an13 cd13 ct13), shl13⟩)
    (hk13 : PySem.W.codeIn K cd13 "_law_bad" = true)
    (hp13 : PySem.W.keepIn K (.ref ha13) = true)
    (hg14 : PySem.W.nsIn K mainGlobals "_law_refused" = some (some (.ref ha14)))
    (hl14 : K.lookup ha14 = some ⟨oc14, od14, .func (PySem.W.fnOf "_law_refused" "_law_refused" (defArgs s_law_refused) (defBody s_law_refused) (defScope s_law_refused) .none kV14 dc14 pm14 an14 cd14 ct14), shl14⟩)
    (hk14 : PySem.W.codeIn K cd14 "_law_refused" = true)
    (hp14 : PySem.W.keepIn K (.ref ha14) = true)
    (hg15 : PySem.W.nsIn K mainGlobals "law" = some (some (.ref ha15)))
    (hl15 : K.lookup ha15 = some ⟨oc15, od15, .func (PySem.W.fnOf "law" "law" (defArgs s_law) (defBody s_law) (defScope s_law) .none kV15 dc15 pm15 an15 cd15 ct15), shl15⟩)
    (hk15 : PySem.W.codeIn K cd15 "law" = true)
    (hp15 : PySem.W.keepIn K (.ref ha15) = true)
    (gc_PressError : PySem.W.nsIn K mainGlobals "PressError" = some (some (.ref c_PressError)))
    (kc_PressError : PySem.W.keepIn K (.ref c_PressError) = true)
    (x_PressError : PySem.W.excIn K c_PressError [.type "ValueError", .type "Exception", .type "BaseException", .type "object"] "ValueError.__new__" = true)
    (xb_PressError : PySem.W.subIn K (.ref c_PressError) (.type "BaseException") = some true)
    (xt_PressError : PySem.W.typeIn K (.ref c_PressError) = some (.type "type"))
    (ehd_PressError : PySem.W.hasDictIn K c_PressError = true)
    (gc_TooFew : PySem.W.nsIn K mainGlobals "TooFew" = some (some (.ref c_TooFew)))
    (kc_TooFew : PySem.W.keepIn K (.ref c_TooFew) = true)
    (x_TooFew : PySem.W.excIn K c_TooFew [.type "ValueError", .type "Exception", .type "BaseException", .type "object"] "ValueError.__new__" = true)
    (xb_TooFew : PySem.W.subIn K (.ref c_TooFew) (.type "BaseException") = some true)
    (xt_TooFew : PySem.W.typeIn K (.ref c_TooFew) = some (.type "type"))
    (ehd_TooFew : PySem.W.hasDictIn K c_TooFew = true)
    (gc_TooMany : PySem.W.nsIn K mainGlobals "TooMany" = some (some (.ref c_TooMany)))
    (kc_TooMany : PySem.W.keepIn K (.ref c_TooMany) = true)
    (x_TooMany : PySem.W.excIn K c_TooMany [.type "ValueError", .type "Exception", .type "BaseException", .type "object"] "ValueError.__new__" = true)
    (xb_TooMany : PySem.W.subIn K (.ref c_TooMany) (.type "BaseException") = some true)
    (xt_TooMany : PySem.W.typeIn K (.ref c_TooMany) = some (.type "type"))
    (ehd_TooMany : PySem.W.hasDictIn K c_TooMany = true)
    (gc_TooWide : PySem.W.nsIn K mainGlobals "TooWide" = some (some (.ref c_TooWide)))
    (kc_TooWide : PySem.W.keepIn K (.ref c_TooWide) = true)
    (x_TooWide : PySem.W.excIn K c_TooWide [.type "ValueError", .type "Exception", .type "BaseException", .type "object"] "ValueError.__new__" = true)
    (xb_TooWide : PySem.W.subIn K (.ref c_TooWide) (.type "BaseException") = some true)
    (xt_TooWide : PySem.W.typeIn K (.ref c_TooWide) = some (.type "type"))
    (ehd_TooWide : PySem.W.hasDictIn K c_TooWide = true)
    (gc_NoFormula : PySem.W.nsIn K mainGlobals "NoFormula" = some (some (.ref c_NoFormula)))
    (kc_NoFormula : PySem.W.keepIn K (.ref c_NoFormula) = true)
    (x_NoFormula : PySem.W.excIn K c_NoFormula [.type "ValueError", .type "Exception", .type "BaseException", .type "object"] "ValueError.__new__" = true)
    (xb_NoFormula : PySem.W.subIn K (.ref c_NoFormula) (.type "BaseException") = some true)
    (xt_NoFormula : PySem.W.typeIn K (.ref c_NoFormula) = some (.type "type"))
    (ehd_NoFormula : PySem.W.hasDictIn K c_NoFormula = true)
    (ega_NoFormula : PySem.W.findIn K (.ref c_NoFormula) "__getattribute__" = some (some (.builtin "BaseException.__getattribute__")))
    (egg_NoFormula : PySem.W.findIn K (.ref c_NoFormula) "__getattr__" = some none)
    (ecl_NoFormula : PySem.W.findIn K (.ref c_NoFormula) "__class__" = some (some (.builtin "object.__class__")))
    (esp_NoFormula : PySem.W.specialIn K (.builtin "object.__class__") "__get__" = some (some (.builtin "getset_descriptor.__get__")))
    (etk_NoFormula : PySem.W.takesIn K (.builtin "object.__class__") = some true)
    (emr_NoFormula : PySem.W.mroIn K c_NoFormula (.type "object") = some true)
    (sv_NoFormula : PySem.W.subIn K (.ref c_NoFormula) (.type "ValueError") = some true)
    (s_NoFormula_PressError : PySem.W.subIn K (.ref c_NoFormula) (.ref c_PressError) = some true)
    (s_NoFormula_TooFew : PySem.W.subIn K (.ref c_NoFormula) (.ref c_TooFew) = some false)
    (s_NoFormula_TooMany : PySem.W.subIn K (.ref c_NoFormula) (.ref c_TooMany) = some false)
    (s_NoFormula_TooWide : PySem.W.subIn K (.ref c_NoFormula) (.ref c_TooWide) = some false)
    (s_NoFormula_NoFormula : PySem.W.subIn K (.ref c_NoFormula) (.ref c_NoFormula) = some true)
    (s_NoFormula_NoName : PySem.W.subIn K (.ref c_NoFormula) (.ref c_NoName) = some false)
    (s_NoFormula_NoLine : PySem.W.subIn K (.ref c_NoFormula) (.ref c_NoLine) = some false)
    (s_NoFormula_NoCircuit : PySem.W.subIn K (.ref c_NoFormula) (.ref c_NoCircuit) = some false)
    (s_NoFormula_OutOfWidth : PySem.W.subIn K (.ref c_NoFormula) (.ref c_OutOfWidth) = some false)
    (gc_NoName : PySem.W.nsIn K mainGlobals "NoName" = some (some (.ref c_NoName)))
    (kc_NoName : PySem.W.keepIn K (.ref c_NoName) = true)
    (x_NoName : PySem.W.excIn K c_NoName [.type "ValueError", .type "Exception", .type "BaseException", .type "object"] "ValueError.__new__" = true)
    (xb_NoName : PySem.W.subIn K (.ref c_NoName) (.type "BaseException") = some true)
    (xt_NoName : PySem.W.typeIn K (.ref c_NoName) = some (.type "type"))
    (ehd_NoName : PySem.W.hasDictIn K c_NoName = true)
    (gc_NoLine : PySem.W.nsIn K mainGlobals "NoLine" = some (some (.ref c_NoLine)))
    (kc_NoLine : PySem.W.keepIn K (.ref c_NoLine) = true)
    (x_NoLine : PySem.W.excIn K c_NoLine [.type "ValueError", .type "Exception", .type "BaseException", .type "object"] "ValueError.__new__" = true)
    (xb_NoLine : PySem.W.subIn K (.ref c_NoLine) (.type "BaseException") = some true)
    (xt_NoLine : PySem.W.typeIn K (.ref c_NoLine) = some (.type "type"))
    (ehd_NoLine : PySem.W.hasDictIn K c_NoLine = true)
    (gc_NoCircuit : PySem.W.nsIn K mainGlobals "NoCircuit" = some (some (.ref c_NoCircuit)))
    (kc_NoCircuit : PySem.W.keepIn K (.ref c_NoCircuit) = true)
    (x_NoCircuit : PySem.W.excIn K c_NoCircuit [.type "ValueError", .type "Exception", .type "BaseException", .type "object"] "ValueError.__new__" = true)
    (xb_NoCircuit : PySem.W.subIn K (.ref c_NoCircuit) (.type "BaseException") = some true)
    (xt_NoCircuit : PySem.W.typeIn K (.ref c_NoCircuit) = some (.type "type"))
    (ehd_NoCircuit : PySem.W.hasDictIn K c_NoCircuit = true)
    (gc_OutOfWidth : PySem.W.nsIn K mainGlobals "OutOfWidth" = some (some (.ref c_OutOfWidth)))
    (kc_OutOfWidth : PySem.W.keepIn K (.ref c_OutOfWidth) = true)
    (x_OutOfWidth : PySem.W.excIn K c_OutOfWidth [.type "ValueError", .type "Exception", .type "BaseException", .type "object"] "ValueError.__new__" = true)
    (xb_OutOfWidth : PySem.W.subIn K (.ref c_OutOfWidth) (.type "BaseException") = some true)
    (xt_OutOfWidth : PySem.W.typeIn K (.ref c_OutOfWidth) = some (.type "type"))
    (ehd_OutOfWidth : PySem.W.hasDictIn K c_OutOfWidth = true)
    (gc_Reader : PySem.W.nsIn K mainGlobals "Reader" = some (some (.ref c_Reader)))
    (kc_Reader : PySem.W.keepIn K (.ref c_Reader) = true)
    (pg_Reader : PySem.W.plainGet K c_Reader Str.empty = true)
    (hd_Reader : PySem.W.hasDictIn K c_Reader = true)
    (po_Reader : PySem.W.plainOver K c_Reader = true)
    (sa_Reader : PySem.W.findIn K (.ref c_Reader) "__setattr__" = some (some (.builtin "object.__setattr__")))
    (mk_Reader : PySem.W.makesIn K c_Reader = true)
    (n_Reader_text : PySem.W.findIn K (.ref c_Reader) "text" = some none)
    (n_Reader_at : PySem.W.findIn K (.ref c_Reader) "at" = some none)
    (z_ValueError : PySem.W.nsIn K mainGlobals "ValueError" = some none)
    (z_enumerate : PySem.W.nsIn K mainGlobals "enumerate" = some none)
    (z_int : PySem.W.nsIn K mainGlobals "int" = some none)
    (z_isinstance : PySem.W.nsIn K mainGlobals "isinstance" = some none)
    (z_len : PySem.W.nsIn K mainGlobals "len" = some none)
    (z_list : PySem.W.nsIn K mainGlobals "list" = some none)
    (z_range : PySem.W.nsIn K mainGlobals "range" = some none)
    (z_str : PySem.W.nsIn K mainGlobals "str" = some none)
    (gk_FIGURES : PySem.W.nsIn K mainGlobals "FIGURES" = some (some (Value.str "0123456789" tk_FIGURES)))
    (gk_MOST : PySem.W.nsIn K mainGlobals "MOST" = some (some (Value.int 1000000000000 tk_MOST)))
    (gk_SMALL : PySem.W.nsIn K mainGlobals "SMALL" = some (some (Value.str "abcdefghijklmnopqrstuvwxyz" tk_SMALL))) :
    ∃ fd : FuncData, (∀ (s : Shared) (v : Value), BindsTo s fd ⟨[v], []⟩ [("_law_script", v)]) ∧ ∀ base : Heap, K.In base → base.Ns mainGlobals mg → FnOk l.prog w K mg base CX0 189 fa fd ["_law_script"] (sp_law K) := by
  have e := hfa.symm.trans (PySem.W.mg_of X G hg15)
  cases e
  have F0 := fun_mk (st := s_Reader__init) hl0 hk0 hp0
  have B0 := F0.binds (ps := ["self", "text"]) fun _ _ _ _ _ _ us hl => match us, hl with | [_, _], _ => rfl
  have F1 := fun_mk (st := s_Reader_here) hl1 hk1 hp1
  have B1 := F1.binds (ps := ["self"]) fun _ _ _ _ _ _ us hl => match us, hl with | [_], _ => rfl
  have F2 := fun_mk (st := s_Reader_run_of) hl2 hk2 hp2
  have B2 := F2.binds (ps := ["self", "signs"]) fun _ _ _ _ _ _ us hl => match us, hl with | [_, _], _ => rfl
  have F3 := fun_mk (st := s_Reader_total) hl3 hk3 hp3
  have B3 := F3.binds (ps := ["self"]) fun _ _ _ _ _ _ us hl => match us, hl with | [_], _ => rfl
  have F4 := fun_mk (st := s_Reader_product) hl4 hk4 hp4
  have B4 := F4.binds (ps := ["self"]) fun _ _ _ _ _ _ us hl => match us, hl with | [_], _ => rfl
  have F5 := fun_mk (st := s_Reader_piece) hl5 hk5 hp5
  have B5 := F5.binds (ps := ["self"]) fun _ _ _ _ _ _ us hl => match us, hl with | [_], _ => rfl
  have F6 := fun_mk (st := s_read) hl6 hk6 hp6
  have B6 := F6.binds (ps := ["text"]) fun _ _ _ _ _ _ us hl => match us, hl with | [_], _ => rfl
  have F7 := fun_mk (st := s_law_mixed) hl7 hk7 hp7
  have B7 := F7.binds (ps := ["_law_cell", "_law_k"]) fun _ _ _ _ _ _ us hl => match us, hl with | [_, _], _ => rfl
  have F8 := fun_mk (st := s_law_names) hl8 hk8 hp8
  have B8 := F8.binds (ps := ["_law_cell"]) fun _ _ _ _ _ _ us hl => match us, hl with | [_], _ => rfl
  have F9 := fun_mk (st := s_law_leaf) hl9 hk9 hp9
  have B9 := F9.binds (ps := ["_law_mixed_here", "_law_names_here"]) fun _ _ _ _ _ _ us hl => match us, hl with | [_, _], _ => rfl
  have F10 := fun_mk (st := s_law_in) hl10 hk10 hp10
  have B10 := F10.binds (ps := ["_law_part", "_law_rank"]) fun _ _ _ _ _ _ us hl => match us, hl with | [_, _], _ => rfl
  have F11 := fun_mk (st := s_law_joined) hl11 hk11 hp11
  have B11 := F11.binds (ps := ["_law_way", "_law_one", "_law_other"]) fun _ _ _ _ _ _ us hl => match us, hl with | [_, _, _], _ => rfl
  have F12 := fun_mk (st := s_law_written) hl12 hk12 hp12
  have B12 := F12.binds (ps := ["_law_cells", "_law_names_here", "_law_spoilt", "_law_most"]) fun _ _ _ _ _ _ us hl => match us, hl with | [_, _, _, _], _ => rfl
  have F13 := fun_mk (st := s_law_bad) hl13 hk13 hp13
  have B13 := F13.binds (ps := []) fun _ _ _ _ _ _ us hl => match us, hl with | [], _ => rfl
  have F14 := fun_mk (st := s_law_refused) hl14 hk14 hp14
  have B14 := F14.binds (ps := ["_law_text"]) fun _ _ _ _ _ _ us hl => match us, hl with | [_], _ => rfl
  have F15 := fun_mk (st := s_law) hl15 hk15 hp15
  have B15 := F15.binds (ps := ["_law_script"]) fun _ _ _ _ _ _ us hl => match us, hl with | [_], _ => rfl
  let T : Top K mg := ⟨ha0,
    _,
    F0,
    B0,
    ha1,
    _,
    F1,
    B1,
    ha2,
    _,
    F2,
    B2,
    ha3,
    _,
    F3,
    B3,
    ha4,
    _,
    F4,
    B4,
    ha5,
    _,
    F5,
    B5,
    ha6,
    _,
    F6,
    B6,
    PySem.W.mg_of X G hg6,
    ha7,
    _,
    F7,
    B7,
    PySem.W.mg_of X G hg7,
    ha8,
    _,
    F8,
    B8,
    PySem.W.mg_of X G hg8,
    ha9,
    _,
    F9,
    B9,
    PySem.W.mg_of X G hg9,
    ha10,
    _,
    F10,
    B10,
    PySem.W.mg_of X G hg10,
    ha11,
    _,
    F11,
    B11,
    PySem.W.mg_of X G hg11,
    ha12,
    _,
    F12,
    B12,
    PySem.W.mg_of X G hg12,
    ha13,
    _,
    F13,
    B13,
    PySem.W.mg_of X G hg13,
    ha14,
    _,
    F14,
    B14,
    PySem.W.mg_of X G hg14,
    fa,
    _,
    F15,
    B15,
    PySem.W.mg_of X G hg15,
    c_PressError,
    PySem.W.mg_of X G gc_PressError,
    gc_PressError,
    kc_PressError,
    x_PressError,
    xb_PressError,
    xt_PressError,
    c_TooFew,
    PySem.W.mg_of X G gc_TooFew,
    gc_TooFew,
    kc_TooFew,
    x_TooFew,
    xb_TooFew,
    xt_TooFew,
    c_TooMany,
    PySem.W.mg_of X G gc_TooMany,
    gc_TooMany,
    kc_TooMany,
    x_TooMany,
    xb_TooMany,
    xt_TooMany,
    c_TooWide,
    PySem.W.mg_of X G gc_TooWide,
    gc_TooWide,
    kc_TooWide,
    x_TooWide,
    xb_TooWide,
    xt_TooWide,
    c_NoFormula,
    PySem.W.mg_of X G gc_NoFormula,
    gc_NoFormula,
    kc_NoFormula,
    x_NoFormula,
    xb_NoFormula,
    xt_NoFormula,
    c_NoName,
    PySem.W.mg_of X G gc_NoName,
    gc_NoName,
    kc_NoName,
    x_NoName,
    xb_NoName,
    xt_NoName,
    c_NoLine,
    PySem.W.mg_of X G gc_NoLine,
    gc_NoLine,
    kc_NoLine,
    x_NoLine,
    xb_NoLine,
    xt_NoLine,
    c_NoCircuit,
    PySem.W.mg_of X G gc_NoCircuit,
    gc_NoCircuit,
    kc_NoCircuit,
    x_NoCircuit,
    xb_NoCircuit,
    xt_NoCircuit,
    c_OutOfWidth,
    PySem.W.mg_of X G gc_OutOfWidth,
    gc_OutOfWidth,
    kc_OutOfWidth,
    x_OutOfWidth,
    xb_OutOfWidth,
    xt_OutOfWidth,
    c_Reader,
    PySem.W.mg_of X G gc_Reader,
    gc_Reader,
    kc_Reader,
    ⟨pg_Reader, hd_Reader, po_Reader, sa_Reader⟩,
    ⟨mk_Reader, hg0, hi0, kc_Reader⟩,
    ⟨hg1, hi1, hp1⟩,
    ⟨hg2, hi2, hp2⟩,
    ⟨hg3, hi3, hp3⟩,
    ⟨hg4, hi4, hp4⟩,
    ⟨hg5, hi5, hp5⟩,
    n_Reader_text,
    n_Reader_at,
    ehd_PressError,
    ehd_TooFew,
    ehd_TooMany,
    ehd_TooWide,
    ehd_NoFormula,
    ega_NoFormula,
    egg_NoFormula,
    ecl_NoFormula,
    esp_NoFormula,
    etk_NoFormula,
    emr_NoFormula,
    sv_NoFormula,
    (kit_ve sv_NoFormula),
    s_NoFormula_PressError,
    (kit_sub ehd_PressError xt_PressError s_NoFormula_NoFormula s_NoFormula_PressError),
    s_NoFormula_TooFew,
    (kit_sub ehd_TooFew xt_TooFew s_NoFormula_NoFormula s_NoFormula_TooFew),
    s_NoFormula_TooMany,
    (kit_sub ehd_TooMany xt_TooMany s_NoFormula_NoFormula s_NoFormula_TooMany),
    s_NoFormula_TooWide,
    (kit_sub ehd_TooWide xt_TooWide s_NoFormula_NoFormula s_NoFormula_TooWide),
    s_NoFormula_NoFormula,
    (kit_sub ehd_NoFormula xt_NoFormula s_NoFormula_NoFormula s_NoFormula_NoFormula),
    (PySem.W.exm_ref xb_NoFormula ehd_NoFormula xt_NoFormula s_NoFormula_NoFormula),
    s_NoFormula_NoName,
    (kit_sub ehd_NoName xt_NoName s_NoFormula_NoFormula s_NoFormula_NoName),
    s_NoFormula_NoLine,
    (kit_sub ehd_NoLine xt_NoLine s_NoFormula_NoFormula s_NoFormula_NoLine),
    s_NoFormula_NoCircuit,
    (kit_sub ehd_NoCircuit xt_NoCircuit s_NoFormula_NoFormula s_NoFormula_NoCircuit),
    s_NoFormula_OutOfWidth,
    (kit_sub ehd_OutOfWidth xt_OutOfWidth s_NoFormula_NoFormula s_NoFormula_OutOfWidth),
    ehd_NoName,
    ehd_NoLine,
    ehd_NoCircuit,
    ehd_OutOfWidth,
    PySem.W.mg_none_of X G z_ValueError,
    PySem.W.mg_none_of X G z_enumerate,
    PySem.W.mg_none_of X G z_int,
    PySem.W.mg_none_of X G z_isinstance,
    PySem.W.mg_none_of X G z_len,
    PySem.W.mg_none_of X G z_list,
    PySem.W.mg_none_of X G z_range,
    PySem.W.mg_none_of X G z_str,
    tk_FIGURES,
    PySem.W.mg_of X G gk_FIGURES,
    tk_MOST,
    PySem.W.mg_of X G gk_MOST,
    tk_SMALL,
    PySem.W.mg_of X G gk_SMALL⟩
  exact ⟨T.d_law, fun s v => .of_eq rfl, fun base _ _ => ok_law T⟩
end Dpr
open PySem PySem.W PyProof.Rows
set_option maxHeartbeats 0 in
theorem PySem.Challenge.cw_dotpress_k38_texts_that_write_none_holds : PySem.Challenge.rw_dotpress_k38_texts_that_write_none.Holds := by
  w_on; o_law; k_head; (case hw => w_witness2)
  k_fill
  refine L2.walk_ofB (l := PySem.Challenge.rw_dotpress_k38_texts_that_write_none) (n := 63) (k := 189) (x := "_law_script") (CX := fun _ => L2.CX0) (sp := fun w => Dpr.sp_law _) rfl (by decide) rfl ⟨rfl, by decide, by decide⟩ (fun w h Y => PySem.W.kIn_of Y) ?F (fun w H a ns hl hb hO hS => Dpr.end_sp_law hl hb hO hS) (fun _ _ _ _ _ h => h)
  case F =>
    intro w mg fa h KX G hmg
    refine' Dpr.all_mk KX G hmg ?hg0 ?hi0 ?hl0 ?hk0 ?hp0 ?hg1 ?hi1 ?hl1 ?hk1 ?hp1 ?hg2 ?hi2 ?hl2 ?hk2 ?hp2 ?hg3 ?hi3 ?hl3 ?hk3 ?hp3 ?hg4 ?hi4 ?hl4 ?hk4 ?hp4 ?hg5 ?hi5 ?hl5 ?hk5 ?hp5 ?hg6 ?hl6 ?hk6 ?hp6 ?hg7 ?hl7 ?hk7 ?hp7 ?hg8 ?hl8 ?hk8 ?hp8 ?hg9 ?hl9 ?hk9 ?hp9 ?hg10 ?hl10 ?hk10 ?hp10 ?hg11 ?hl11 ?hk11 ?hp11 ?hg12 ?hl12 ?hk12 ?hp12 ?hg13 ?hl13 ?hk13 ?hp13 ?hg14 ?hl14 ?hk14 ?hp14 ?hg15 ?hl15 ?hk15 ?hp15 ?gc_PressError ?kc_PressError ?x_PressError ?xb_PressError ?xt_PressError ?ehd_PressError ?gc_TooFew ?kc_TooFew ?x_TooFew ?xb_TooFew ?xt_TooFew ?ehd_TooFew ?gc_TooMany ?kc_TooMany ?x_TooMany ?xb_TooMany ?xt_TooMany ?ehd_TooMany ?gc_TooWide ?kc_TooWide ?x_TooWide ?xb_TooWide ?xt_TooWide ?ehd_TooWide ?gc_NoFormula ?kc_NoFormula ?x_NoFormula ?xb_NoFormula ?xt_NoFormula ?ehd_NoFormula ?ega_NoFormula ?egg_NoFormula ?ecl_NoFormula ?esp_NoFormula ?etk_NoFormula ?emr_NoFormula ?sv_NoFormula ?s_NoFormula_PressError ?s_NoFormula_TooFew ?s_NoFormula_TooMany ?s_NoFormula_TooWide ?s_NoFormula_NoFormula ?s_NoFormula_NoName ?s_NoFormula_NoLine ?s_NoFormula_NoCircuit ?s_NoFormula_OutOfWidth ?gc_NoName ?kc_NoName ?x_NoName ?xb_NoName ?xt_NoName ?ehd_NoName ?gc_NoLine ?kc_NoLine ?x_NoLine ?xb_NoLine ?xt_NoLine ?ehd_NoLine ?gc_NoCircuit ?kc_NoCircuit ?x_NoCircuit ?xb_NoCircuit ?xt_NoCircuit ?ehd_NoCircuit ?gc_OutOfWidth ?kc_OutOfWidth ?x_OutOfWidth ?xb_OutOfWidth ?xt_OutOfWidth ?ehd_OutOfWidth ?gc_Reader ?kc_Reader ?pg_Reader ?hd_Reader ?po_Reader ?sa_Reader ?mk_Reader ?n_Reader_text ?n_Reader_at ?z_ValueError ?z_enumerate ?z_int ?z_isinstance ?z_len ?z_list ?z_range ?z_str ?gk_FIGURES ?gk_MOST ?gk_SMALL
    (case gc_PressError => k_is)
    (case gc_TooFew => k_is)
    (case gc_TooMany => k_is)
    (case gc_TooWide => k_is)
    (case gc_NoFormula => k_is)
    (case gc_NoName => k_is)
    (case gc_NoLine => k_is)
    (case gc_NoCircuit => k_is)
    (case gc_OutOfWidth => k_is)
    (case gc_Reader => k_is)
    (case hg0 => k_is)
    (case hi0 => k_is)
    (case hl0 => k_is)
    (case hk0 => k_is)
    (case hp0 => k_is)
    (case hg1 => k_is)
    (case hi1 => k_is)
    (case hl1 => k_is)
    (case hk1 => k_is)
    (case hp1 => k_is)
    (case hg2 => k_is)
    (case hi2 => k_is)
    (case hl2 => k_is)
    (case hk2 => k_is)
    (case hp2 => k_is)
    (case hg3 => k_is)
    (case hi3 => k_is)
    (case hl3 => k_is)
    (case hk3 => k_is)
    (case hp3 => k_is)
    (case hg4 => k_is)
    (case hi4 => k_is)
    (case hl4 => k_is)
    (case hk4 => k_is)
    (case hp4 => k_is)
    (case hg5 => k_is)
    (case hi5 => k_is)
    (case hl5 => k_is)
    (case hk5 => k_is)
    (case hp5 => k_is)
    (case hg6 => k_is)
    (case hl6 => k_is)
    (case hk6 => k_is)
    (case hp6 => k_is)
    (case hg7 => k_is)
    (case hl7 => k_is)
    (case hk7 => k_is)
    (case hp7 => k_is)
    (case hg8 => k_is)
    (case hl8 => k_is)
    (case hk8 => k_is)
    (case hp8 => k_is)
    (case hg9 => k_is)
    (case hl9 => k_is)
    (case hk9 => k_is)
    (case hp9 => k_is)
    (case hg10 => k_is)
    (case hl10 => k_is)
    (case hk10 => k_is)
    (case hp10 => k_is)
    (case hg11 => k_is)
    (case hl11 => k_is)
    (case hk11 => k_is)
    (case hp11 => k_is)
    (case hg12 => k_is)
    (case hl12 => k_is)
    (case hk12 => k_is)
    (case hp12 => k_is)
    (case hg13 => k_is)
    (case hl13 => k_is)
    (case hk13 => k_is)
    (case hp13 => k_is)
    (case hg14 => k_is)
    (case hl14 => k_is)
    (case hk14 => k_is)
    (case hp14 => k_is)
    (case hg15 => k_is)
    (case hl15 => k_is)
    (case hk15 => k_is)
    (case hp15 => k_is)
    (case kc_PressError => k_is)
    (case x_PressError => k_exc)
    (case xb_PressError => k_is)
    (case xt_PressError => k_is)
    (case ehd_PressError => k_is)
    (case kc_TooFew => k_is)
    (case x_TooFew => k_exc)
    (case xb_TooFew => k_is)
    (case xt_TooFew => k_is)
    (case ehd_TooFew => k_is)
    (case kc_TooMany => k_is)
    (case x_TooMany => k_exc)
    (case xb_TooMany => k_is)
    (case xt_TooMany => k_is)
    (case ehd_TooMany => k_is)
    (case kc_TooWide => k_is)
    (case x_TooWide => k_exc)
    (case xb_TooWide => k_is)
    (case xt_TooWide => k_is)
    (case ehd_TooWide => k_is)
    (case kc_NoFormula => k_is)
    (case x_NoFormula => k_exc)
    (case xb_NoFormula => k_is)
    (case xt_NoFormula => k_is)
    (case ehd_NoFormula => k_is)
    (case ega_NoFormula => k_is)
    (case egg_NoFormula => k_is)
    (case ecl_NoFormula => k_is)
    (case esp_NoFormula => k_is)
    (case etk_NoFormula => k_is)
    (case emr_NoFormula => k_is)
    (case sv_NoFormula => k_is)
    (case s_NoFormula_PressError => k_is)
    (case s_NoFormula_TooFew => k_is)
    (case s_NoFormula_TooMany => k_is)
    (case s_NoFormula_TooWide => k_is)
    (case s_NoFormula_NoFormula => k_is)
    (case s_NoFormula_NoName => k_is)
    (case s_NoFormula_NoLine => k_is)
    (case s_NoFormula_NoCircuit => k_is)
    (case s_NoFormula_OutOfWidth => k_is)
    (case kc_NoName => k_is)
    (case x_NoName => k_exc)
    (case xb_NoName => k_is)
    (case xt_NoName => k_is)
    (case ehd_NoName => k_is)
    (case kc_NoLine => k_is)
    (case x_NoLine => k_exc)
    (case xb_NoLine => k_is)
    (case xt_NoLine => k_is)
    (case ehd_NoLine => k_is)
    (case kc_NoCircuit => k_is)
    (case x_NoCircuit => k_exc)
    (case xb_NoCircuit => k_is)
    (case xt_NoCircuit => k_is)
    (case ehd_NoCircuit => k_is)
    (case kc_OutOfWidth => k_is)
    (case x_OutOfWidth => k_exc)
    (case xb_OutOfWidth => k_is)
    (case xt_OutOfWidth => k_is)
    (case ehd_OutOfWidth => k_is)
    (case kc_Reader => k_is)
    (case pg_Reader => k_is)
    (case hd_Reader => k_is)
    (case po_Reader => k_is)
    (case sa_Reader => k_is)
    (case mk_Reader => k_is)
    (case n_Reader_text => k_is)
    (case n_Reader_at => k_is)
    (case z_ValueError => k_is)
    (case z_enumerate => k_is)
    (case z_int => k_is)
    (case z_isinstance => k_is)
    (case z_len => k_is)
    (case z_list => k_is)
    (case z_range => k_is)
    (case z_str => k_is)
    (case gk_FIGURES => k_is)
    (case gk_MOST => k_is)
    (case gk_SMALL => k_is)


