import PyProof.Rows.All
import Wide.All
import OpenK.AllK
import Wide.FinOn
import HandS.ForMost
import HandS.IsInst
import HandS.WideBits
import HandS.Wide
import HandS.EndBits
import HandS.Evl
import HandS.More
import HandS.DictComp
import HandS.RevRange
import HandS.DeepEq
import HandS.ListEq
import PySem.Challenge.RW_dotpress_k09_beats
set_option Elab.async false
set_option linter.all false
set_option maxRecDepth 100000
set_option maxHeartbeats 4000000


namespace Dpr
open PySem PySem.Spec PyProof.Rows L2
/-! ### steps of a reading, one a construct -/
section
variable {K : PySem.W.Frag} {D : Ends} {σ : L2.St} {H : Hp} {Q : VK} {QB : Bool → Hp → Prop} {QA : List V → Hp → Prop} {ta tb tc te : TE} {t u : TS} {c : TT} {g : TG} {r r' : R2} {v x y : V}
theorem w_seq (h : t { D with nx := u D } σ H) : tSeq t u D σ H := h
theorem w_cut (M : L2.St → Hp → Prop) (h : t { D with nx := M } σ H) (k : ∀ σ' H', M σ' H' → u D σ' H') : Evl.tCut t u D σ H := ⟨M, h, k⟩
theorem w_asg {i : Nat} (h : te σ H fun v H1 => D.nx (σ.set i (some v)) H1) : tAsg te (gName i) D σ H := h
theorem w_asgG (h : te σ H fun v H1 => g v σ H1 D.nx) : tAsg te g D σ H := h
theorem w_drop (h : te σ H fun _ H1 => D.nx σ H1) : tDrop te D σ H := h
theorem w_ret (h : te σ H D.rt) : tRet te D σ H := h
theorem w_retN (h : D.rt .non H) : tRetN D σ H := h
theorem w_next (h : D.nx σ H) : tNext D σ H := h
theorem w_cont (h : D.ct σ H) : tCont D σ H := h
theorem w_brk (h : D.bk σ H) : tBreak D σ H := h
theorem w_if (h : c σ H fun b H1 => if b = true then t D σ H1 else u D σ H1) : tIfS c t u D σ H := h
theorem w_aug {i : Nat} {ti : TIp} (hx : σ[i]? = some (some x)) (h : te σ H fun y H1 => ti x y H1 fun z H2 => D.nx (σ.set i (some z)) H2) : tAug i te ti D σ H := ⟨x, hx, h⟩
theorem w_ipI {f : Int → Int → Int} {i j : Int} (h : Q (.int (f i j)) H) : ipI f (.int i) (.int j) H Q := ⟨i, j, rfl, rfl, h⟩
theorem w_var {i : Nat} (hx : σ[i]? = some (some v)) (h : Q v H) : tVar i σ H Q := ⟨v, hx, h⟩
theorem w_c (h : Q v H) : tC v σ H Q := h
theorem w_op (h : ta σ H fun x H1 => tb σ H1 fun y H2 => r x y H2 Q) : tOp r ta tb σ H Q := h
theorem w_un {f : V → Hp → VK → Prop} (h : ta σ H fun x H1 => f x H1 Q) : tUn f ta σ H Q := h
theorem w_chain (h : ta σ H fun x H1 => tb σ H1 fun y H2 => r x y H2 fun z H3 => ∃ k, z = .bl k ∧ (if k = true then tc σ H3 fun w' H4 => r' y w' H4 Q else Q (.bl false) H3)) : tChain r r' ta tb tc σ H Q := h
theorem w_test (h : te σ H fun x H1 => ∃ k, x = .bl k ∧ QB k H1) : tTest te σ H QB := h
theorem w_tB (h : te σ H fun x H1 => ∃ k, x = .bl k ∧ QB k H1) : tB te σ H QB := h
theorem w_bl {b : Bool} {P : Bool → Prop} (h : P b) : ∃ k, V.bl b = .bl k ∧ P k := ⟨b, rfl, h⟩
theorem w_and {t u : TT} (h : t σ H fun c H1 => if c = true then u σ H1 QB else QB false H1) : tAnd t u σ H QB := h
theorem w_or {t u : TT} (h : t σ H fun c H1 => if c = true then QB true H1 else u σ H1 QB) : tOr t u σ H QB := h
theorem w_not {t : TT} (h : t σ H fun c H1 => QB (!c) H1) : tNot t σ H QB := h
theorem w_andV (h : ta σ H fun x H1 => ∃ c, x = .bl c ∧ if c = true then tb σ H1 Q else Q (.bl false) H1) : tAndV ta tb σ H Q := h
theorem w_orV (h : ta σ H fun x H1 => ∃ c, x = .bl c ∧ if c = true then Q (.bl true) H1 else tb σ H1 Q) : tOrV ta tb σ H Q := h
theorem w_notV (h : ta σ H fun x H1 => ∃ c, x = .bl c ∧ Q (.bl (!c)) H1) : tNotV ta σ H Q := h
theorem w_ifx {t : TT} (h : t σ H fun c H1 => if c = true then ta σ H1 Q else tb σ H1 Q) : tIf t ta tb σ H Q := h
theorem w_nil (h : QA [] H) : tNil σ H QA := h
theorem w_cons {tr : TA} (h : ta σ H fun x H1 => tr σ H1 fun xs H2 => QA (x :: xs) H2) : tCons ta tr σ H QA := h
/-- a new tuple, a new list: the heap is a letter -/
def AlT (xs : List V) (H : Hp) (Q : VK) : Prop := xs.length ≤ sizeLine ∧ ∀ p, H p = none → Q (.ref p) (upd H p (.tup xs))
def AlL (xs : List V) (H : Hp) (Q : VK) : Prop := xs.length ≤ sizeLine ∧ ∀ p, H p = none → Q (.ref p) (upd H p (.lst xs))
theorem same_upd {H : Hp} {p : Addr} {o : HO} (h : H p = none) : Same H (upd H p o) := fun b x e => by
  rw [upd_ne (ne_of_none e h)]
  exact e
theorem w_tup {s : TA} (h : s σ H fun xs H1 => AlT xs H1 Q) : tTup s σ H Q := h
theorem w_lst {s : TA} (h : s σ H fun xs H1 => AlL xs H1 Q) : tLst s σ H Q := h
theorem sz_le {n : Nat} (h : Nat.ble n 1000 = true) : n ≤ sizeLine := Nat.le_trans (Nat.le_of_ble_eq_true h) (by rw [sizeLine_eq]; decide)
theorem w_alT {xs : List V} (hl : xs.length ≤ sizeLine) (h : ∀ p H', H p = none → Same H H' → H' p = some (.tup xs) → Q (.ref p) H') : AlT xs H Q := ⟨hl, fun p hp => h p _ hp (same_upd hp) upd_same⟩
theorem w_alL {xs : List V} (hl : xs.length ≤ sizeLine) (h : ∀ p H', H p = none → Same H H' → H' p = some (.lst xs) → Q (.ref p) H') : AlL xs H Q := ⟨hl, fun p hp => h p _ hp (same_upd hp) upd_same⟩
theorem w_call {sp : Sp} {dvs : List V} {E : XK} {s : TA} (h : s σ H fun vs H1 => sp (vs ++ dvs) H1 Q E) : tCall sp dvs E s σ H Q := h
theorem w_cb {f : List V → Hp → VK → Prop} {s : TA} (h : s σ H fun vs H1 => f vs H1 Q) : tCB f s σ H Q := h
theorem w_I0 {f : Int → Int → V} {i j : Int} (h : Q (f i j) H) : rI0 f (.int i) (.int j) H Q := ⟨i, j, rfl, rfl, h⟩
theorem w_I {C : Int → Int → Prop} {f : Int → Int → V} {i j : Int} (hc : C i j) (h : Q (f i j) H) : rI C f (.int i) (.int j) H Q := ⟨i, j, rfl, rfl, hc, h⟩
theorem w_U {f : Int → V} {i : Int} (h : Q (f i) H) : rU f (.int i) H Q := ⟨i, rfl, h⟩
theorem w_eq (hs : scal x y = true) (h : Q (.bl (decide (x = y))) H) : rEq x y H Q := ⟨hs, h⟩
theorem w_ne (hs : scal x y = true) (h : Q (.bl (!decide (x = y))) H) : rNe x y H Q := ⟨hs, h⟩
theorem w_bits {i : Int} (h : Q (.int (Builtin.Int.intBits i : Nat)) H) : (∃ j, V.int i = .int j ∧ Q (.int (Builtin.Int.intBits j : Nat)) H) := ⟨i, rfl, h⟩
theorem w_tbits (h : te σ H fun x H1 => ∃ i, x = .int i ∧ Q (.int (Builtin.Int.intBits i : Nat)) H1) : tBits te σ H Q := h
theorem w_ixL {p : Addr} {xs : List V} {i : Int} (hl : SqL K H p xs) (ha : atI xs i = some v) (h : Q v H) : rIxL K (.ref p) (.int i) H Q := ⟨p, xs, i, v, rfl, rfl, hl, ha, h⟩
theorem w_ixT {p : Addr} {xs : List V} {i : Int} (hl : SqT K H p xs) (ha : atI xs i = some v) (h : Q v H) : rIxT K (.ref p) (.int i) H Q := ⟨p, xs, i, v, rfl, rfl, hl, ha, h⟩
/-! tests -/
theorem w_itT {A B : Prop} (h : A) : if true = true then A else B := by rw [if_pos rfl]; exact h
theorem w_itF {A B : Prop} (h : B) : if false = true then A else B := by rw [if_neg Bool.false_ne_true]; exact h
theorem w_itC {b : Bool} {A B : Prop} (e : b = true) (h : A) : if b = true then A else B := by rw [if_pos e]; exact h
theorem w_itD {b : Bool} {A B : Prop} (e : b = false) (h : B) : if b = true then A else B := by rw [e, if_neg Bool.false_ne_true]; exact h
theorem w_itI {i j : Int} {A B : Prop} (h1 : i = j → A) (h2 : i ≠ j → B) : if decide (V.int i = V.int j) = true then A else B := by
  by_cases e : i = j
  · rw [if_pos (by rw [e]; exact decide_eq_true rfl)]; exact h1 e
  · rw [if_neg (fun z => e (V.int.inj (of_decide_eq_true z)))]; exact h2 e
theorem w_itN {i j : Int} {A B : Prop} (h1 : i ≠ j → A) (h2 : i = j → B) : if (!decide (V.int i = V.int j)) = true then A else B := by
  by_cases e : i = j
  · rw [e, decide_eq_true rfl]; exact w_itF (h2 e)
  · rw [decide_eq_false (fun z => e (V.int.inj z))]; exact w_itT (h1 e)
theorem w_itd {p A B : Prop} [Decidable p] (h1 : p → A) (h2 : ¬ p → B) : if decide p = true then A else B := by
  by_cases e : p
  · rw [if_pos (decide_eq_true e)]; exact h1 e
  · rw [if_neg (fun z => e (of_decide_eq_true z))]; exact h2 e
theorem w_itn {p A B : Prop} [Decidable p] (h1 : ¬ p → A) (h2 : p → B) : if (!decide p) = true then A else B := by
  by_cases e : p
  · rw [decide_eq_true e]; exact w_itF (h2 e)
  · rw [decide_eq_false e]; exact w_itT (h1 e)
theorem w_itb {b : Bool} {A B : Prop} (h1 : b = true → A) (h2 : b = false → B) : if b = true then A else B := by
  cases b with
  | true => exact w_itT (h1 rfl)
  | false => exact w_itF (h2 rfl)
end
/-! calls of built-ins, by names of our own -/
def rLen (K : PySem.W.Frag) : List V → Hp → VK → Prop := fun xs H Q => ∃ p ys, xs = [.ref p] ∧ (SqL K H p ys ∨ SqT K H p ys) ∧ Q (.int ys.length) H
theorem c_len {X : Cx} : CallR X (.builtin "len") (rLen X.K) := call_len_seq
theorem w_lenL {K : PySem.W.Frag} {H : Hp} {Q : VK} {p : Addr} {xs : List V} (h : SqL K H p xs) (q : Q (.int (xs.length : Int)) H) : rLen K [.ref p] H Q := ⟨p, xs, rfl, .inl h, q⟩
theorem w_lenT {K : PySem.W.Frag} {H : Hp} {Q : VK} {p : Addr} {xs : List V} (h : SqT K H p xs) (q : Q (.int (xs.length : Int)) H) : rLen K [.ref p] H Q := ⟨p, xs, rfl, .inr h, q⟩
def rAbs : List V → Hp → VK → Prop := fun xs H Q => ∃ i, xs = [.int i] ∧ Q (.int (if i < 0 then -i else i)) H
theorem c_abs {X : Cx} : CallR X (.builtin "abs") rAbs := call_abs
theorem w_abs {H : Hp} {Q : VK} {i : Int} (q : Q (.int (if i < 0 then -i else i)) H) : rAbs [.int i] H Q := ⟨i, rfl, q⟩
def rMax2 : List V → Hp → VK → Prop := fun xs H Q => ∃ i j, xs = [.int i, .int j] ∧ Q (.int (if j > i then j else i)) H
def rMin2 : List V → Hp → VK → Prop := fun xs H Q => ∃ i j, xs = [.int i, .int j] ∧ Q (.int (if j < i then j else i)) H
theorem c_max2 {X : Cx} (hc : X.calm = true) : CallR X (.builtin "max") rMax2 := call_max2 hc
theorem c_min2 {X : Cx} (hc : X.calm = true) : CallR X (.builtin "min") rMin2 := call_min2 hc
theorem w_max2 {H : Hp} {Q : VK} {i j : Int} (q : Q (.int (if j > i then j else i)) H) : rMax2 [.int i, .int j] H Q := ⟨i, j, rfl, q⟩
theorem w_min2 {H : Hp} {Q : VK} {i j : Int} (q : Q (.int (if j < i then j else i)) H) : rMin2 [.int i, .int j] H Q := ⟨i, j, rfl, q⟩
def rListOf (K : PySem.W.Frag) : List V → Hp → VK → Prop := fun xs H Q => ∃ p ys, xs = [.ref p] ∧ (SqL K H p ys ∨ SqT K H p ys) ∧ ∀ l, H l = none → Q (.ref l) (upd H l (.lst ys))
theorem c_list {X : Cx} : CallR X (.type "list") (rListOf X.K) := call_list_of
theorem w_listL {K : PySem.W.Frag} {H : Hp} {Q : VK} {p : Addr} {xs : List V} (h : SqL K H p xs) (q : ∀ l H', H l = none → Same H H' → H' l = some (.lst xs) → Q (.ref l) H') : rListOf K [.ref p] H Q := ⟨p, xs, rfl, .inl h, fun l hl => q l _ hl (same_upd hl) upd_same⟩
theorem w_listT {K : PySem.W.Frag} {H : Hp} {Q : VK} {p : Addr} {xs : List V} (h : SqT K H p xs) (q : ∀ l H', H l = none → Same H H' → H' l = some (.lst xs) → Q (.ref l) H') : rListOf K [.ref p] H Q := ⟨p, xs, rfl, .inr h, fun l hl => q l _ hl (same_upd hl) upd_same⟩
/-- a product of two ints of any size that the model allows -/
theorem op_mulI {X : Cx} : OpR X (binaryOp .Mult) (rI IntMulOk fun i j => .int (i * j)) := opI fun _ _ _ _ _ _ _ hc q => mul_int q hc
/-- isinstance, the answer told -/
theorem w_isi {K : PySem.W.Frag} {H : Hp} {Q : VK} {x : V} {t : Value} {n : String} {b : Bool} (ty : TyX K H x t) (e : PySem.W.kitOne K t (.type n) = some b) (q : Q (.bl b) H) : rIsi K [x, .ty n] H Q := ⟨x, .ty n, t, _, b, rfl, .ty n, ty, e, q⟩
theorem kit_ii (K : PySem.W.Frag) : PySem.W.kitOne K (.type "int") (.type "int") = some true := kit_ty (by decide +kernel)
theorem kit_ib (K : PySem.W.Frag) : PySem.W.kitOne K (.type "int") (.type "bool") = some false := kit_ty (by decide +kernel)
theorem kit_bi (K : PySem.W.Frag) : PySem.W.kitOne K (.type "bool") (.type "int") = some true := kit_ty (by decide +kernel)
theorem kit_bb (K : PySem.W.Frag) : PySem.W.kitOne K (.type "bool") (.type "bool") = some true := kit_ty (by decide +kernel)
theorem kit_ll (K : PySem.W.Frag) : PySem.W.kitOne K (.type "list") (.type "list") = some true := kit_ty (by decide +kernel)
theorem kit_tt (K : PySem.W.Frag) : PySem.W.kitOne K (.type "tuple") (.type "tuple") = some true := kit_ty (by decide +kernel)
theorem kit_ss (K : PySem.W.Frag) : PySem.W.kitOne K (.type "str") (.type "str") = some true := kit_ty (by decide +kernel)
theorem w_isiT {K : PySem.W.Frag} {H : Hp} {Q : VK} {p : Addr} {xs : List V} (e : H p = some (.tup xs)) (q : Q (.bl true) H) : rIsi K [.ref p, .ty "tuple"] H Q := w_isi (TyX.base (TyOf.tup e)) (kit_tt K) q
theorem w_isiL {K : PySem.W.Frag} {H : Hp} {Q : VK} {p : Addr} {xs : List V} (e : H p = some (.lst xs)) (q : Q (.bl true) H) : rIsi K [.ref p, .ty "list"] H Q := w_isi (TyX.base (TyOf.lst e)) (kit_ll K) q
theorem kit_tl (K : PySem.W.Frag) : PySem.W.kitOne K (.type "tuple") (.type "list") = some false := kit_ty (by decide +kernel)
theorem kit_lt (K : PySem.W.Frag) : PySem.W.kitOne K (.type "list") (.type "tuple") = some false := kit_ty (by decide +kernel)
/-! slices and sums of lists -/
section
variable {K : PySem.W.Frag} {σ : L2.St} {H : Hp} {Q : VK} {te : TE} {tl th : TO} {QO : Option Int → Hp → Prop}
theorem w_tsl {f : V → Option Int → Option Int → Hp → VK → Prop} (h : te σ H fun x H1 => tl σ H1 fun l H2 => th σ H2 fun u H3 => f x l u H3 Q) : tSl f te tl th σ H Q := h
theorem w_tnp (h : QO none H) : tNoPart σ H QO := h
theorem w_tpt (h : te σ H fun x H1 => ∃ i, x = .int i ∧ QO (some i) H1) : tPart te σ H QO := h
theorem w_pt {i : Int} {P : Int → Prop} (h : P i) : ∃ j, V.int i = .int j ∧ P j := ⟨i, rfl, h⟩
theorem w_sl {p : Addr} {xs : List V} {lo hi : Option Int} (h : SqL K H p xs) (q : ∀ l H', H l = none → Same H H' → H' l = some (.lst (cutV xs lo hi)) → Q (.ref l) H') : rSlL K (.ref p) lo hi H Q :=
  ⟨p, xs, rfl, h, fun l hl => q l _ hl (same_upd hl) upd_same⟩
theorem w_cat {p b : Addr} {xs ys : List V} (h1 : H p = some (.lst xs)) (h2 : H b = some (.lst ys)) (hz : xs.length + ys.length ≤ 16000000) (q : ∀ l H', H l = none → Same H H' → H' l = some (.lst (xs ++ ys)) → Q (.ref l) H') : rCat (.ref p) (.ref b) H Q :=
  ⟨p, b, xs, ys, rfl, rfl, h1, h2, Nat.le_trans hz (by rw [sizeLine_eq]; decide), fun l hl => q l _ hl (same_upd hl) upd_same⟩
end
/-! heaps that grow -/
theorem same_at {H H' : Hp} {b : Addr} {o : HO} (s : Same H H') (h : H b = some o) : H' b = some o := s b o h
theorem same_tup {K : PySem.W.Frag} {H H' : Hp} {a : Addr} {xs : List V} (e : Same H H') (h : SqT K H a xs) : SqT K H' a xs := by
  rcases h with (h | ⟨o, h⟩) | h
  · exact .inl (.inl (e _ _ h))
  · exact .inl (.inr ⟨o, e _ _ h⟩)
  · exact .inr h
theorem p2pos (k : Nat) : (0 : Int) < 2 ^ k := Int.pow_pos (by decide)
/-! loops -/
section
variable {K : PySem.W.Frag} {D : Ends} {σ : L2.St} {H : Hp} {Q : VK} {ta te tl : TE} {t : TS} {g : TG} {s : TA} {wi : TI} {tt : TT} {vs : List Nat}
def ForB (J : It) (g : TG) (t : TS) (D : Ends) (σ : L2.St) (H : Hp) : Prop := ∃ W : Nat → Nat → L2.St → Hp → Prop, (∃ m, W 0 m σ H) ∧ ∀ i m σ H, W i m σ H →
  (J.stop i H ∧ D.nx σ H) ∨ (J.go i H ∧ ∃ N : L2.St → Hp → Prop, (∀ σ' H', N σ' H' → ∃ m', m' < m ∧ W (i + 1) m' σ' H') ∧ ∀ x H', J.yld i H x H' → g x σ H' fun σ2 H2 => t { D with nx := N, ct := N, bk := D.nx } σ2 H2)
theorem w_for (h : wi σ H fun J H1 => ForB J g t D σ H1) : tFor wi g t D σ H := h
def LcB (J : It) (g : TG) (tt : TT) (te : TE) (vs : List Nat) (σ : L2.St) (Q : VK) (H1 : Hp) : Prop := ∀ D, H1 D = none → ∃ W : Nat → Nat → Hp → Prop, (∃ m, W 0 m (upd H1 D (.lst []))) ∧ ∀ i m H, W i m H →
  (J.stop i H ∧ Q (.ref D) H) ∨ (J.go i H ∧ ∃ Nx : Hp → Prop, (∀ H', Nx H' → ∃ m', m' < m ∧ W (i + 1) m' H') ∧ ∀ x H', J.yld i H x H' → g x (wipe σ vs) H' fun σ2 H2 => wipe σ2 vs = wipe σ vs ∧ tt σ2 H2 fun b H3 =>
    if b = true then te σ2 H3 fun y H4 => ∃ acc, H4 D = some (.lst acc) ∧ acc.length < sizeLine ∧ Nx (upd H4 D (.lst (acc ++ [y]))) else Nx H3)
theorem w_lc (h : wi σ H fun J H1 => LcB J g tt te vs σ Q H1) : tLc wi g tt te vs σ H Q := h
def IL1 (K : PySem.W.Frag) (R : It → Hp → Prop) (x : V) (H1 : Hp) : Prop := ∃ a, x = .ref a ∧ (∃ xs, SqL K H1 a xs) ∧ R (Itl K a) H1
def IT1 (K : PySem.W.Frag) (R : It → Hp → Prop) (x : V) (H1 : Hp) : Prop := ∃ a, x = .ref a ∧ (∃ xs, SqT K H1 a xs) ∧ R (Itt K a) H1
def IR1 (R : It → Hp → Prop) (vs : List V) (H1 : Hp) : Prop := ∃ j : Int, vs = [.int j] ∧ -(2 ^ 62) ≤ j ∧ j < 2 ^ 62 ∧ R (Itr 0 j.toNat) H1
def IR2 (R : It → Hp → Prop) (vs : List V) (H1 : Hp) : Prop := ∃ i j : Int, vs = [.int i, .int j] ∧ (-(2 ^ 62) ≤ i ∧ i < 2 ^ 62 ∧ -(2 ^ 62) ≤ j ∧ j < 2 ^ 62) ∧ R (Itr i (j - i).toNat) H1
variable {R : It → Hp → Prop}
theorem w_iL (h : tl σ H fun x H1 => IL1 K R x H1) : iList K tl σ H R := h
theorem w_iT (h : tl σ H fun x H1 => IT1 K R x H1) : iTup K tl σ H R := h
theorem w_iR1 (h : s σ H fun x H1 => IR1 R x H1) : iRng1 s σ H R := h
theorem w_iR2 (h : s σ H fun x H1 => IR2 R x H1) : iRng2 s σ H R := h
theorem w_IL1 {a : Addr} {xs : List V} (h : SqL K H a xs) (q : R (Itl K a) H) : IL1 K R (.ref a) H := ⟨a, rfl, ⟨xs, h⟩, q⟩
theorem w_IT1 {a : Addr} {xs : List V} (h : SqT K H a xs) (q : R (Itt K a) H) : IT1 K R (.ref a) H := ⟨a, rfl, ⟨xs, h⟩, q⟩
theorem w_IR1 {j : Int} (h : -1000000 ≤ j ∧ j ≤ 1000000) (q : R (Itr 0 j.toNat) H) : IR1 R [.int j] H := ⟨j, rfl, by omega, by omega, q⟩
theorem w_IR2 {i j : Int} (h : -1000000 ≤ i ∧ i ≤ 1000000 ∧ -1000000 ≤ j ∧ j ≤ 1000000) (q : R (Itr i (j - i).toNat) H) : IR2 R [.int i, .int j] H := ⟨i, j, rfl, by omega, q⟩
/-- for x in a list that stands: Pv by the turn, the slots, the heap -/
theorem for_l {a : Addr} {j : Nat} (xs : List V) (Pv : Nat → L2.St → Hp → Prop) (h0 : Pv 0 σ H) (hl : ∀ i σ H, i ≤ xs.length → Pv i σ H → SqL K H a xs)
    (hs : ∀ i x σ' H', xs[i]? = some x → Pv i σ' H' → t { D with nx := Pv (i + 1), ct := Pv (i + 1), bk := D.nx } (σ'.set j (some x)) H') (hd : ∀ σ' H', Pv xs.length σ' H' → D.nx σ' H') : ForB (Itl K a) (gName j) t D σ H :=
  for_list Pv h0 hl hs hd
theorem for_t {a : Addr} {j : Nat} (xs : List V) (Pv : Nat → L2.St → Hp → Prop) (h0 : Pv 0 σ H) (hl : ∀ i σ H, i ≤ xs.length → Pv i σ H → SqT K H a xs)
    (hs : ∀ i x σ' H', xs[i]? = some x → Pv i σ' H' → t { D with nx := Pv (i + 1), ct := Pv (i + 1), bk := D.nx } (σ'.set j (some x)) H') (hd : ∀ σ' H', Pv xs.length σ' H' → D.nx σ' H') : ForB (Itt K a) (gName j) t D σ H :=
  for_tup Pv h0 hl hs hd
theorem for_r {n j : Nat} (Pv : Nat → L2.St → Hp → Prop) (h0 : Pv 0 σ H)
    (hs : ∀ (i : Nat) σ' H', i < n → Pv i σ' H' → t { D with nx := Pv (i + 1), ct := Pv (i + 1), bk := D.nx } (σ'.set j (some (.int (i : Int)))) H') (hd : ∀ σ' H', Pv n σ' H' → D.nx σ' H') : ForB (Itr 0 n) (gName j) t D σ H :=
  for_range Pv h0 (fun i σ' H' hi p => by
    show t _ (σ'.set j (some (.int (0 + (i : Int))))) H'
    rw [Int.zero_add]
    exact hs i σ' H' hi p) hd
theorem for_r2 {lo : Int} {n j : Nat} (Pv : Nat → L2.St → Hp → Prop) (h0 : Pv 0 σ H)
    (hs : ∀ (i : Nat) σ' H', i < n → Pv i σ' H' → t { D with nx := Pv (i + 1), ct := Pv (i + 1), bk := D.nx } (σ'.set j (some (.int (lo + (i : Int))))) H') (hd : ∀ σ' H', Pv n σ' H' → D.nx σ' H') : ForB (Itr lo n) (gName j) t D σ H :=
  for_range Pv h0 hs hd
/-- a comprehension over range(n) whose elements leave the heap -/
theorem lc_r {n j : Nat} (f : Nat → V) (hn : n < 1000000) (hw : ∀ x, wipe ((wipe σ vs).set j (some x)) vs = wipe σ vs)
    (he : ∀ (i : Nat) H' (Q' : VK), i < n → Same H H' → Q' (f i) H' → te ((wipe σ vs).set j (some (.int (i : Int)))) H' Q')
    (q : ∀ p H', H p = none → Same H H' → H' p = some (.lst ((List.range n).map f)) → Q (.ref p) H') : LcB (Itr 0 n) (gName j) tYes te vs σ Q H := fun p hp =>
  lc_range (lo := 0) (n := n) (fun i H' => H' = upd H p (.lst ((List.range i).map f))) rfl (fun i H' hi e => by
    subst e
    have e0 : V.int (0 + (i : Int)) = V.int (i : Int) := by rw [Int.zero_add]
    show wipe ((wipe σ vs).set j (some (V.int (0 + (i : Int))))) vs = wipe σ vs ∧ te ((wipe σ vs).set j (some (V.int (0 + (i : Int))))) (upd H p (.lst ((List.range i).map f)))
      (fun y H4 => ∃ acc, H4 p = some (.lst acc) ∧ acc.length < sizeLine ∧ upd H4 p (.lst (acc ++ [y])) = upd H p (.lst ((List.range (i + 1)).map f)))
    rw [e0]
    refine ⟨hw _, he i _ _ hi (same_upd hp) ⟨_, upd_same, ?_, ?_⟩⟩
    · rw [List.length_map, List.length_range]
      exact Nat.lt_of_lt_of_le (show i < 16777216 by omega) (by rw [sizeLine_eq]; exact Nat.le_refl _)
    · rw [upd_upd, List.range_succ, List.map_append]
      rfl) fun H' e => by
    subst e
    exact q p _ hp (same_upd hp) upd_same
end
/-! lists of ints -/
theorem get_map {α : Type} {xs : List α} {f : α → V} {i : Nat} {x : V} (h : (xs.map f)[i]? = some x) : ∃ y, xs[i]? = some y ∧ x = f y := by
  rw [List.getElem?_map] at h
  cases e : xs[i]? with
  | none => rw [e] at h; cases h
  | some y => rw [e] at h; exact ⟨y, rfl, (Option.some.inj h).symm⟩
theorem cut_upto (xs : List V) (n : Nat) : cutV xs none (some (n : Int)) = xs.take n := by
  unfold cutV
  rw [HT.sIx_none, HT.sIx_nat, List.drop_zero, Nat.sub_zero]
  rcases Nat.le_total n xs.length with h | h
  · rw [Nat.min_eq_left h]
  · rw [Nat.min_eq_right h, List.take_of_length_le (Nat.le_refl _), List.take_of_length_le h]
theorem cut_from (xs : List V) (n : Nat) (h : n ≤ xs.length) : cutV xs (some (n : Int)) none = xs.drop n := by
  unfold cutV
  rw [HT.sIx_none, HT.sIx_nat, Nat.min_eq_left h]
  exact List.take_of_length_le (by rw [List.length_drop]; exact Nat.le_refl _)
/-- the cells of a law: at most 63 of the script, and nought behind -/
def cells (ns : List Int) : List Int := ns.take 63 ++ [0]
theorem cells_eq (ns : List Int) : cutV (ns.map V.int) none (some (63 : Int)) ++ [V.int 0] = (cells ns).map V.int := by
  rw [show (63 : Int) = ((63 : Nat) : Int) from rfl, cut_upto, cells, List.map_append, List.map_take]
  rfl
theorem cells_len (ns : List Int) : (cells ns).length ≤ 64 ∧ 1 ≤ (cells ns).length := by
  unfold cells
  rw [List.length_append, List.length_take, List.length_singleton]
  omega
theorem cutV_le (xs : List V) (lo hi : Option Int) {n : Nat} (h : xs.length ≤ n) : (cutV xs lo hi).length ≤ n := Nat.le_trans (cutV_length xs lo hi) h
/-! == of data -/
theorem w_neD {K : PySem.W.Frag} {H : Hp} {Q : VK} {x y : V} {d e : PyData} (hx : Dp K H x d) (hy : Dp K H y e) (sd : SeqAt.shaped d = true) (se : SeqAt.shaped e = true) (q : Q (.bl (!PyData.eqv d e)) H) : rNeD K x y H Q := ⟨d, e, hx, hy, sd, se, q⟩
theorem w_eqD {K : PySem.W.Frag} {H : Hp} {Q : VK} {x y : V} {d e : PyData} (hx : Dp K H x d) (hy : Dp K H y e) (sd : SeqAt.shaped d = true) (se : SeqAt.shaped e = true) (q : Q (.bl (PyData.eqv d e)) H) : rEqD K x y H Q := ⟨d, e, hx, hy, sd, se, q⟩
theorem w_neSame {K : PySem.W.Frag} {H : Hp} {Q : VK} {x y : V} (d : PyData) (hx : Dp K H x d) (hy : Dp K H y d) (sd : SeqAt.shaped d = true) (q : Q (.bl false) H) : rNeD K x y H Q :=
  ⟨d, d, hx, hy, sd, sd, by rw [SeqAt.eqv_refl d (SeqAt.canLay_of_shaped sd)]; exact q⟩
theorem w_eqSame {K : PySem.W.Frag} {H : Hp} {Q : VK} {x y : V} (d : PyData) (hx : Dp K H x d) (hy : Dp K H y d) (sd : SeqAt.shaped d = true) (q : Q (.bl true) H) : rEqD K x y H Q :=
  ⟨d, d, hx, hy, sd, sd, by rw [SeqAt.eqv_refl d (SeqAt.canLay_of_shaped sd)]; exact q⟩
theorem dp_ints {K : PySem.W.Frag} {H : Hp} : ∀ ns : List Int, DpAll K H (ns.map V.int) (ns.map PyData.int)
  | [] => .nil
  | n :: r => .cons (.int n) (dp_ints r)
theorem lay_ints : ∀ ns : List Int, PyData.canLayAll0 (ns.map PyData.int) = true
  | [] => rfl
  | n :: r => by
    show (PyData.canLay0 (.int n) && PyData.canLayAll0 (r.map PyData.int)) = true
    rw [lay_ints r]
    rfl
/-! lists that change -/
section
variable {K : PySem.W.Frag} {D : Ends} {σ : L2.St} {H H1 : Hp} {Q : VK} {to : TE} {t : TA} {b : TS}
/-- what H does not know may change behind it -/
theorem same_mut {o : Addr} {u : HO} (s : Same H H1) (n : H o = none) : Same H (upd H1 o u) := fun c x e => by
  rw [upd_ne (ne_of_none e n)]
  exact s c x e
def BM1 (K : PySem.W.Frag) (T : String) (f : V → List V → Hp → VK → Prop) (t : TA) (σ : L2.St) (Q : VK) (x : V) (H1 : Hp) : Prop := tyV K T x H1 ∧ t σ H1 fun xs H2 => f x xs H2 Q
def BM0 (K : PySem.W.Frag) (T : String) (f : V → List V → Hp → VK → Prop) (Q : VK) (x : V) (H1 : Hp) : Prop := tyV K T x H1 ∧ f x [] H1 Q
theorem w_bm {T : String} {f : V → List V → Hp → VK → Prop} (h : to σ H fun x H1 => BM1 K T f t σ Q x H1) : tBM K T f to t σ H Q := h
theorem w_bm0 {T : String} {f : V → List V → Hp → VK → Prop} (h : to σ H fun x H1 => BM0 K T f Q x H1) : tBM0 K T f to σ H Q := h
theorem w_BML {f : V → List V → Hp → VK → Prop} {p : Addr} {xs : List V} (e : H p = some (.lst xs)) (q : t σ H fun vs H2 => f (.ref p) vs H2 Q) : BM1 K "list" f t σ Q (.ref p) H := ⟨.inl ⟨rfl, xs, SqL.of e⟩, q⟩
theorem w_BM0L {f : V → List V → Hp → VK → Prop} {p : Addr} {xs : List V} (e : H p = some (.lst xs)) (q : f (.ref p) [] H Q) : BM0 K "list" f Q (.ref p) H := ⟨.inl ⟨rfl, xs, SqL.of e⟩, q⟩
theorem w_append {p : Addr} {xs : List V} {y : V} (e : H p = some (.lst xs)) (hz : xs.length ≤ 1000000) (q : Q .non (upd H p (.lst (xs ++ [y])))) : rAppend (.ref p) [y] H Q :=
  ⟨p, xs, y, rfl, rfl, e, Nat.lt_of_le_of_lt hz (by rw [sizeLine_eq]; decide), q⟩
/-- for k, x in enumerate(a list that stands) -/
def IE1 (K : PySem.W.Frag) (R : It → Hp → Prop) (vs : List V) (H1 : Hp) : Prop := ∃ a xs, vs = [.ref a] ∧ SqL K H1 a xs ∧ R (Ite K a) H1
theorem w_iE {s : TA} {R : It → Hp → Prop} (h : s σ H fun x H1 => IE1 K R x H1) : iEnum K s σ H R := h
theorem w_IE1 {a : Addr} {xs : List V} {R : It → Hp → Prop} (h : SqL K H a xs) (q : R (Ite K a) H) : IE1 K R [.ref a] H := ⟨a, xs, rfl, h, q⟩
theorem for_e {a : Addr} {j k : Nat} (xs : List V) (Pv : Nat → L2.St → Hp → Prop) (h0 : Pv 0 σ H) (hl : ∀ n σ H, n ≤ xs.length → Pv n σ H → SqL K H a xs)
    (hs : ∀ (n : Nat) x σ' H' H'', xs[n]? = some x → Pv n σ' H' → Same H' H'' → b { D with nx := Pv (n + 1), ct := Pv (n + 1), bk := D.nx } ((σ'.set j (some (.int (n : Int)))).set k (some x)) H'') (hd : ∀ σ' H', Pv xs.length σ' H' → D.nx σ' H') :
    ForB (Ite K a) (gTup K 2 (gCons (gName j) (gCons (gName k) gNil))) b D σ H := by
  refine ⟨fun i m σ H => m = xs.length - i ∧ i ≤ xs.length ∧ Pv i σ H, ⟨xs.length, by simp, Nat.zero_le _, h0⟩, ?_⟩
  rintro i m σ H ⟨rfl, hi, p⟩
  have q := hl i σ H hi p
  by_cases hlt : i < xs.length
  · refine .inr ⟨⟨xs, xs[i], q, by simp [hlt]⟩, Pv (i + 1), fun σ' H' p' => ⟨xs.length - (i + 1), by omega, rfl, hlt, p'⟩, fun x H' y => ?_⟩
    obtain ⟨T, y, rfl, nT, rfl, hy⟩ := y
    refine ⟨T, _, rfl, SqT.of upd_same, rfl, _, _, rfl, _, _, rfl, rfl, ?_⟩
    exact hs i y σ H _ (hy xs q) p (same_upd nT)
  · have e : i = xs.length := by omega
    subst e
    exact .inl ⟨⟨xs, q, Nat.le_refl _⟩, hd σ H p⟩
end
/-- x & 1 -/
def rBit1 : R2 := fun x y H Q => ∃ i : Int, x = .int i ∧ y = .int 1 ∧ Q (.int (i % 2)) H
theorem op_bit1 {X : Cx} : OpR X (binaryOp .BitAnd) rBit1 := by
  intro pins s σ H x y v u Q I rx ry h
  obtain ⟨i, rfl, rfl, q⟩ := h
  have e : Builtin.bitAnd i 1 = i % 2 := PySem.W.kbt_mask i 1
  rw [← e] at q
  exact op_and pins s σ H _ _ v u Q I rx ry ⟨_, _, rfl, rfl, q⟩
theorem w_bit1 {H : Hp} {Q : VK} {i : Int} (q : Q (.int (i % 2)) H) : rBit1 (.int i) (.int 1) H Q := ⟨i, rfl, rfl, q⟩
/-- x >> k, k a place -/
def rShrN : R2 := fun x y H Q => ∃ (i : Int) (k : Nat), x = .int i ∧ y = .int (k : Int) ∧ Q (.int (i / 2 ^ k)) H
theorem op_shrK {X : Cx} : OpR X (binaryOp .RShift) rShrN := op_shrN
theorem w_shrN {H : Hp} {Q : VK} {i : Int} {k : Nat} (q : Q (.int (i / 2 ^ k)) H) : rShrN (.int i) (.int (k : Int)) H Q := ⟨i, k, rfl, rfl, q⟩
/-- x << k, x small, k a place -/
def rShlN : R2 := fun x y H Q => ∃ (i : Int) (k : Nat), x = .int i ∧ y = .int (k : Int) ∧ (-100 ≤ i ∧ i ≤ 100 ∧ k ≤ 1000000) ∧ Q (.int (i * 2 ^ k)) H
theorem op_shlK {X : Cx} : OpR X (binaryOp .LShift) rShlN := by
  intro pins s σ H x y v u Q I rx ry h
  obtain ⟨i, k, rfl, rfl, ⟨h1, h2, h3⟩, q⟩ := h
  refine op_shl pins s σ H _ _ v u Q I rx ry ⟨_, _, rfl, rfl, ⟨by omega, by omega, Nat.lt_of_le_of_lt (show i.natAbs ≤ 100 by omega) (by decide)⟩, ?_⟩
  show Q (.int (i * 2 ^ (k : Int).toNat)) H
  rw [Int.toNat_natCast]
  exact q
theorem w_shlN {H : Hp} {Q : VK} {i : Int} {k : Nat} (h : -100 ≤ i ∧ i ≤ 100 ∧ k ≤ 1000000) (q : Q (.int (i * 2 ^ k)) H) : rShlN (.int i) (.int (k : Int)) H Q := ⟨i, k, rfl, rfl, h, q⟩
theorem bits_of_int {i : Int} {n : Nat} (h : i.natAbs < 2 ^ n) : Builtin.Int.intBits i ≤ n + 1 := by
  have b : Builtin.Int.intBits i ≤ i.natAbs.log2 + 1 := by
    unfold Builtin.Int.intBits
    split <;> omega
  rcases Nat.eq_zero_or_pos n with h0 | h0
  · subst h0
    have e : i.natAbs = 0 := by omega
    rw [e] at b
    exact b
  · have := PySem.Flt.log2_lt_of h0 h
    omega
theorem mul_ok {i j : Int} {n : Nat} (hi : Builtin.Int.intBits i ≤ 1048576) (hj : j.natAbs < 2 ^ n) (hn : n ≤ 1000000) : IntMulOk i j :=
  CMulX.ok (show (Builtin.Int.intBits i : Int) + (Builtin.Int.intBits j : Int) ≤ 134217728 by have := bits_of_int hj; omega)
theorem mul_sm {i j : Int} (h : -1000000000000 ≤ i ∧ i ≤ 1000000000000) : IntMulOk i j := .of_left (intBits_le_64 (by omega) (by omega))
theorem mul_sm2 {i j : Int} (h : -1000000000000 ≤ j ∧ j ≤ 1000000000000) : IntMulOk i j := .of_right (intBits_le_64 (by omega) (by omega))
theorem depth_ints : ∀ ns : List Int, PyData.depthAll (ns.map PyData.int) ≤ 1
  | [] => Nat.zero_le 1
  | n :: r => by
    have := depth_ints r
    show max (PyData.depth (.int n)) (PyData.depthAll (r.map PyData.int)) ≤ 1
    exact Nat.max_le.mpr ⟨Nat.zero_le 1, this⟩
theorem shaped_ints (ns : List Int) : SeqAt.shaped (.list (ns.map PyData.int)) = true := by
  unfold SeqAt.shaped
  rw [show PyData.canLay0 (.list (ns.map PyData.int)) = true from lay_ints ns, Bool.true_and]
  have h := depth_ints ns
  exact decide_eq_true (show PyData.depthAll (ns.map PyData.int) + 1 ≤ 64 by omega)
/-! targets of several names -/
section
variable {K : PySem.W.Frag} {σ : L2.St} {H : Hp} {t : TG} {u tt : TGs} {QS : L2.St → Hp → Prop}
theorem w_gTup {n : Nat} {a : Addr} {xs : List V} (h : SqT K H a xs) (e : xs.length = n) (q : tt xs σ H QS) : gTup K n tt (.ref a) σ H QS := ⟨a, xs, rfl, h, e, q⟩
theorem w_gCons {v : V} {r : List V} (q : t v σ H fun σ' H' => u r σ' H' QS) : gCons t u (v :: r) σ H QS := ⟨v, r, rfl, q⟩
theorem w_gNil (q : QS σ H) : gNil [] σ H QS := ⟨rfl, q⟩
theorem w_gName {v : V} {i : Nat} (q : QS (σ.set i (some v)) H) : gName i v σ H QS := q
end
/-- how many bits a number has -/
theorem ib_le {x : Int} (h : 0 ≤ x) (n : Nat) : Builtin.Int.intBits x ≤ n ↔ x < 2 ^ n := by
  obtain ⟨k, rfl⟩ := Int.eq_ofNat_of_zero_le h
  have e : (k : Int) < 2 ^ n ↔ k < 2 ^ n := by
    rw [show ((2 : Int) ^ n) = ((2 ^ n : Nat) : Int) by rw [Int.natCast_pow]; rfl]
    exact Int.ofNat_lt
  rw [e]
  by_cases h0 : k = 0
  · subst h0
    exact ⟨fun _ => Nat.pos_of_ne_zero (by intro z; exact absurd z (Nat.ne_of_gt (Nat.pow_pos (by decide)))), fun _ => Nat.zero_le _⟩
  · have hb : Builtin.Int.intBits (k : Int) = k.log2 + 1 := by
      unfold Builtin.Int.intBits
      rw [if_neg (by simpa using h0)]
      rfl
    rw [hb]
    exact (Nat.log2_lt h0)
theorem mul_cc {i j : Int} (hi : Builtin.Int.intBits i ≤ 1048576) (hj : Builtin.Int.intBits j ≤ 1048576) : IntMulOk i j :=
  CMulX.ok (show (Builtin.Int.intBits i : Int) + (Builtin.Int.intBits j : Int) ≤ 134217728 by omega)
theorem abs_pow (n : Nat) : ((1 : Int) * 2 ^ n).natAbs = 2 ^ n := by
  rw [Int.one_mul, Int.natAbs_pow]
  rfl
/-! cells of a script by their places -/
theorem get_int {ns : List Int} {i : Nat} (hi : i < ns.length) : atI (ns.map V.int) (i : Int) = some (.int ns[i]) := atI_nat (by rw [List.getElem?_map, List.getElem?_eq_getElem hi]; rfl)
theorem atI_lastD {bs : List Int} (h : bs ≠ []) : atI (bs.map V.int) (-1) = some (.int (bs.getLastD 0)) := by
  obtain ⟨r, x, rfl⟩ : ∃ r x, bs = r ++ [x] := ⟨bs.dropLast, bs.getLast h, (List.dropLast_concat_getLast h).symm⟩
  rw [List.map_append]
  have e : (r ++ [x]).getLastD 0 = x := by simp
  rw [e]
  exact atI_last _ _
theorem atI_prev {xs : List Int} {k : Nat} (hk : k < xs.length) : ∃ c, atI (xs.map V.int) ((k : Int) - 1) = some (.int c) ∧ c ∈ xs := by
  cases k with
  | zero =>
    have hne : xs ≠ [] := fun z => by
      rw [z] at hk
      exact absurd hk (by decide)
    refine ⟨xs.getLastD 0, atI_lastD hne, ?_⟩
    obtain ⟨r, x, rfl⟩ : ∃ r x, xs = r ++ [x] := ⟨xs.dropLast, xs.getLast hne, (List.dropLast_concat_getLast hne).symm⟩
    simp
  | succ j =>
    have hj : j < xs.length := by omega
    refine ⟨xs[j], ?_, List.getElem_mem hj⟩
    have e : ((j + 1 : Nat) : Int) - 1 = (j : Int) := by omega
    rw [e]
    exact get_int hj
theorem cells_bits {ns : List Int} (h : ∀ z ∈ ns, Builtin.Int.intBits z ≤ 1048576) : ∀ z ∈ cells ns, Builtin.Int.intBits z ≤ 1048576 := by
  intro z hz
  rcases List.mem_append.mp hz with q | q
  · exact h z (List.mem_of_mem_take q)
  · have e : z = 0 := List.mem_singleton.mp q
    rw [e]
    decide
/-! texts compared -/
theorem w_itS1 {x y : Str} {A B : Prop} (e : decide (x = y) = true) (h : A) : if decide (V.str x = V.str y) = true then A else B := by
  rw [of_decide_eq_true e, decide_eq_true rfl]
  exact w_itT h
theorem w_itS0 {x y : Str} {A B : Prop} (e : decide (x = y) = false) (h : B) : if decide (V.str x = V.str y) = true then A else B := by
  rw [decide_eq_false (fun z => of_decide_eq_false e (V.str.inj z))]
  exact w_itF h
theorem w_itN1 {x y : Str} {A B : Prop} (e : decide (x = y) = true) (h : B) : if (!decide (V.str x = V.str y)) = true then A else B := by
  rw [of_decide_eq_true e, decide_eq_true rfl]
  exact w_itF h
theorem w_itN0 {x y : Str} {A B : Prop} (e : decide (x = y) = false) (h : A) : if (!decide (V.str x = V.str y)) = true then A else B := by
  rw [decide_eq_false (fun z => of_decide_eq_false e (V.str.inj z))]
  exact w_itT h
theorem w_itS {x y : Str} {A B : Prop} (h1 : x = y → A) (h2 : x ≠ y → B) : if decide (V.str x = V.str y) = true then A else B := by
  by_cases e : x = y
  · exact w_itS1 (decide_eq_true e) (h1 e)
  · exact w_itS0 (decide_eq_false e) (h2 e)
theorem w_itSN {x y : Str} {A B : Prop} (h1 : x ≠ y → A) (h2 : x = y → B) : if (!decide (V.str x = V.str y)) = true then A else B := by
  by_cases e : x = y
  · exact w_itN1 (decide_eq_true e) (h2 e)
  · exact w_itN0 (decide_eq_false e) (h1 e)
/-! dicts asked -/
def DG1 (x y : V) (H2 : Hp) (Q : VK) : Prop := ∃ a v, x = .ref a ∧ DGet H2 a y (some v) ∧ Q v H2
theorem w_dget {td ty : TE} {σ : L2.St} {H : Hp} {Q : VK} (h : td σ H fun x H1 => ty σ H1 fun y H2 => DG1 x y H2 Q) : tDGet td ty σ H Q := h
theorem w_DG1 {a : Addr} {kvs : List (Key × V)} {n : Str} {v : V} {H : Hp} {Q : VK} (e : H a = some (.dK kvs)) (g : valV kvs (Sum.inr n) = some v) (q : Q v H) : DG1 (.ref a) (.str n) H Q :=
  ⟨a, v, rfl, by rw [← g]; exact DGet.k (k := Sum.inr n) e, q⟩
/-! lists in step -/
def A2 {α β : Type} (R : α → β → Prop) (xs : List α) (ys : List β) : Prop := xs.length = ys.length ∧ ∀ (i : Nat) x y, xs[i]? = some x → ys[i]? = some y → R x y
theorem A2.nil {α β : Type} {R : α → β → Prop} : A2 R [] [] := ⟨rfl, fun i x y h => by cases h⟩
theorem A2.snoc {α β : Type} {R : α → β → Prop} {xs : List α} {ys : List β} {x : α} {y : β} (h : A2 R xs ys) (r : R x y) : A2 R (xs ++ [x]) (ys ++ [y]) := by
  refine ⟨by rw [List.length_append, List.length_append, h.1]; rfl, fun i u v hu hv => ?_⟩
  rcases Nat.lt_trichotomy i xs.length with q | q | q
  · rw [List.getElem?_append_left q] at hu
    rw [List.getElem?_append_left (by rw [← h.1]; exact q)] at hv
    exact h.2 i u v hu hv
  · subst q
    rw [List.getElem?_append_right (Nat.le_refl _), Nat.sub_self] at hu
    rw [h.1, List.getElem?_append_right (Nat.le_refl _), Nat.sub_self] at hv
    cases hu
    cases hv
    exact r
  · rw [List.getElem?_eq_none (by rw [List.length_append]; exact q)] at hu
    cases hu
theorem A2.mono {α β : Type} {R S : α → β → Prop} {xs : List α} {ys : List β} (h : A2 R xs ys) (k : ∀ x y, R x y → S x y) : A2 S xs ys := ⟨h.1, fun i x y a b => k x y (h.2 i x y a b)⟩
theorem A2.get {α β : Type} {R : α → β → Prop} {xs : List α} {ys : List β} {i : Nat} {x : α} (h : A2 R xs ys) (e : xs[i]? = some x) : ∃ y, ys[i]? = some y ∧ R x y := by
  have hi := (List.getElem?_eq_some_iff.mp e).1
  have hj : i < ys.length := by rw [← h.1]; exact hi
  exact ⟨ys[i], List.getElem?_eq_getElem hj, h.2 i x _ e (List.getElem?_eq_getElem hj)⟩
theorem A2.get2 {α β : Type} {R : α → β → Prop} {xs : List α} {ys : List β} {i : Nat} {y : β} (h : A2 R xs ys) (e : ys[i]? = some y) : ∃ x, xs[i]? = some x ∧ R x y := by
  have hi := (List.getElem?_eq_some_iff.mp e).1
  have hj : i < xs.length := by rw [h.1]; exact hi
  exact ⟨xs[i], List.getElem?_eq_getElem hj, h.2 i _ y (List.getElem?_eq_getElem hj) e⟩
theorem mul_ok2 {i j : Int} {n : Nat} (hi : Builtin.Int.intBits i ≤ 1048576) (hj : j.natAbs < 2 ^ n) (hn : n ≤ 1000000) : IntMulOk i j := mul_ok hi hj hn
/-! the rules with the written part named (within a comprehension it must be) -/
theorem ix_tupK {X : Cx} (K : PySem.W.Frag) (e : X.K = K := by rfl) : IxR X (rIxT K) := by subst e; exact ix_tup
theorem ix_listK {X : Cx} (K : PySem.W.Frag) (e : X.K = K := by rfl) : IxR X (rIxL K) := by subst e; exact ix_list
theorem c_lenK {X : Cx} (K : PySem.W.Frag) (e : X.K = K := by rfl) : CallR X (.builtin "len") (rLen K) := by subst e; exact c_len
theorem c_listK {X : Cx} (K : PySem.W.Frag) (e : X.K = K := by rfl) : CallR X (.type "list") (rListOf K) := by subst e; exact c_list
theorem c_isiK {X : Cx} (K : PySem.W.Frag) (e : X.K = K := by rfl) : CallR X (.builtin "isinstance") (rIsi K) := by subst e; exact call_isi
/-- a comprehension over a list that stands, whose elements leave the heap -/
theorem lc_l {K : PySem.W.Frag} {σ : L2.St} {H : Hp} {Q : VK} {te : TE} {vs : List Nat} {a : Addr} {j : Nat} (xs ys : List V) (hlen : ys.length = xs.length) (hS : SqL K H a xs) (hz : xs.length ≤ 1000000) (hw : ∀ x, wipe ((wipe σ vs).set j (some x)) vs = wipe σ vs)
    (he : ∀ (i : Nat) x y H' (Q' : VK), xs[i]? = some x → ys[i]? = some y → Same H H' → Q' y H' → te ((wipe σ vs).set j (some x)) H' Q')
    (q : ∀ p H', H p = none → Same H H' → H' p = some (.lst ys) → Q (.ref p) H') : LcB (Itl K a) (gName j) tYes te vs σ Q H := fun p hp =>
  lc_list (xs := xs) (fun i H' => H' = upd H p (.lst (ys.take i))) rfl (fun i H' _ e => by
    subst e
    exact (same_upd hp).seq hS) (fun i x H' hx e => by
    subst e
    have hi := (List.getElem?_eq_some_iff.mp hx).1
    have hy : ys[i]? = some ys[i] := List.getElem?_eq_getElem (by omega)
    show wipe ((wipe σ vs).set j (some x)) vs = wipe σ vs ∧ te ((wipe σ vs).set j (some x)) (upd H p (.lst (ys.take i)))
      (fun y H4 => ∃ acc, H4 p = some (.lst acc) ∧ acc.length < sizeLine ∧ upd H4 p (.lst (acc ++ [y])) = upd H p (.lst (ys.take (i + 1))))
    refine ⟨hw _, he i x _ _ _ hx hy (same_upd hp) ⟨_, upd_same, ?_, ?_⟩⟩
    · rw [List.length_take]
      exact Nat.lt_of_lt_of_le (show min i ys.length < 16777216 by omega) (by rw [sizeLine_eq]; exact Nat.le_refl _)
    · rw [upd_upd, List.take_add_one, hy]
      rfl) fun H' e => by
    subst e
    refine q p _ hp (same_upd hp) ?_
    rw [upd_same, List.take_of_length_le (by omega)]
/-- x // (1 << k) -/
def rDivP : R2 := fun x y H Q => ∃ (i : Int) (k : Nat), x = .int i ∧ y = .int (1 * 2 ^ k) ∧ k ≤ 5000 ∧ Q (.int (i / 2 ^ k)) H
theorem op_divP {X : Cx} : OpR X (binaryOp .FloorDiv) rDivP := by
  intro pins s σ H x y v u Q I rx ry h
  obtain ⟨i, k, rfl, rfl, hk, q⟩ := h
  refine op_fdivW pins s σ H _ _ v u Q I rx ry ⟨_, _, rfl, rfl, ?_, ?_⟩
  · refine wide_div (b := k + 1) (by rw [Int.one_mul]; exact p2pos k) ?_ (Nat.succ_pos _) (by omega)
    rw [abs_pow]
    exact Nat.pow_lt_pow_right (by decide) (Nat.lt_succ_self k)
  · show Q (.int (i / (1 * 2 ^ k))) H
    rw [Int.one_mul]
    exact q
theorem w_divP {H : Hp} {Q : VK} {i : Int} {k : Nat} (h : k ≤ 5000) (q : Q (.int (i / 2 ^ k)) H) : rDivP (.int i) (.int (1 * 2 ^ k)) H Q := ⟨i, k, rfl, rfl, h, q⟩
theorem hp_upd {H : Hp} {a b : Addr} {o u : HO} (ne : b ≠ a) (h : H b = some o) : upd H a u b = some o := by rw [upd_ne ne]; exact h
theorem hp_upd2 {H : Hp} {a b : Addr} {o u : HO} (ne : a ≠ b) (h : H b = some o) : upd H a u b = some o := hp_upd ne.symm h
/-- a comprehension over a range, of whose elements something is known -/
theorem lc_rx {σ : L2.St} {H : Hp} {Q : VK} {te : TE} {vs : List Nat} {lo : Int} {n j : Nat} (P : V → Prop) (hn : n < 1000000) (hw : ∀ x, wipe ((wipe σ vs).set j (some x)) vs = wipe σ vs)
    (he : ∀ (i : Nat) H' (Q' : VK), i < n → Same H H' → (∀ y, P y → Q' y H') → te ((wipe σ vs).set j (some (.int (lo + (i : Int))))) H' Q')
    (q : ∀ ys p H', ys.length = n → (∀ y ∈ ys, P y) → H p = none → Same H H' → H' p = some (.lst ys) → Q (.ref p) H') : LcB (Itr lo n) (gName j) tYes te vs σ Q H := fun p hp =>
  lc_range (lo := lo) (n := n) (fun i H' => ∃ ys : List V, ys.length = i ∧ (∀ y ∈ ys, P y) ∧ H' = upd H p (.lst ys)) ⟨[], rfl, fun y h => (by cases h), rfl⟩ (fun i H' hi e => by
    obtain ⟨ys, hl, hP, rfl⟩ := e
    show wipe ((wipe σ vs).set j (some (V.int (lo + (i : Int))))) vs = wipe σ vs ∧ te ((wipe σ vs).set j (some (V.int (lo + (i : Int))))) (upd H p (.lst ys))
      (fun y H4 => ∃ acc, H4 p = some (.lst acc) ∧ acc.length < sizeLine ∧ ∃ zs : List V, zs.length = i + 1 ∧ (∀ y ∈ zs, P y) ∧ upd H4 p (.lst (acc ++ [y])) = upd H p (.lst zs))
    refine ⟨hw _, he i _ _ hi (same_upd hp) fun y hy => ⟨ys, upd_same, ?_, ys ++ [y], ?_, ?_, ?_⟩⟩
    · exact Nat.lt_of_lt_of_le (show ys.length < 16777216 by omega) (by rw [sizeLine_eq]; exact Nat.le_refl _)
    · rw [List.length_append, hl]
      rfl
    · intro z hz
      rcases List.mem_append.mp hz with k | k
      · exact hP z k
      · rw [List.mem_singleton.mp k]
        exact hy
    · rw [upd_upd]) fun H' e => by
    obtain ⟨ys, hl, hP, rfl⟩ := e
    exact q ys p _ hl hP hp (same_upd hp) upd_same
/-- .. over a list -/
theorem lc_lx {K : PySem.W.Frag} {σ : L2.St} {H : Hp} {Q : VK} {te : TE} {vs : List Nat} {a : Addr} {j : Nat} (xs : List V) (P : V → Prop) (hS : SqL K H a xs) (hz : xs.length ≤ 1000000) (hw : ∀ x, wipe ((wipe σ vs).set j (some x)) vs = wipe σ vs)
    (he : ∀ (i : Nat) x H' (Q' : VK), xs[i]? = some x → Same H H' → (∀ y, P y → Q' y H') → te ((wipe σ vs).set j (some x)) H' Q')
    (q : ∀ ys p H', ys.length = xs.length → (∀ y ∈ ys, P y) → H p = none → Same H H' → H' p = some (.lst ys) → Q (.ref p) H') : LcB (Itl K a) (gName j) tYes te vs σ Q H := fun p hp =>
  lc_list (xs := xs) (fun i H' => ∃ ys : List V, ys.length = i ∧ (∀ y ∈ ys, P y) ∧ H' = upd H p (.lst ys)) ⟨[], rfl, fun y h => (by cases h), rfl⟩ (fun i H' _ e => by
    obtain ⟨ys, hl, hP, rfl⟩ := e
    exact (same_upd hp).seq hS) (fun i x H' hx e => by
    obtain ⟨ys, hl, hP, rfl⟩ := e
    have hi := (List.getElem?_eq_some_iff.mp hx).1
    show wipe ((wipe σ vs).set j (some x)) vs = wipe σ vs ∧ te ((wipe σ vs).set j (some x)) (upd H p (.lst ys))
      (fun y H4 => ∃ acc, H4 p = some (.lst acc) ∧ acc.length < sizeLine ∧ ∃ zs : List V, zs.length = i + 1 ∧ (∀ y ∈ zs, P y) ∧ upd H4 p (.lst (acc ++ [y])) = upd H p (.lst zs))
    refine ⟨hw _, he i x _ _ hx (same_upd hp) fun y hy => ⟨ys, upd_same, ?_, ys ++ [y], ?_, ?_, ?_⟩⟩
    · exact Nat.lt_of_lt_of_le (show ys.length < 16777216 by omega) (by rw [sizeLine_eq]; exact Nat.le_refl _)
    · rw [List.length_append, hl]
      rfl
    · intro z hz
      rcases List.mem_append.mp hz with k | k
      · exact hP z k
      · rw [List.mem_singleton.mp k]
        exact hy
    · rw [upd_upd]) fun H' e => by
    obtain ⟨ys, hl, hP, rfl⟩ := e
    exact q ys p _ hl hP hp (same_upd hp) upd_same
/-- values that are all of one form -/
theorem all_map {α : Type} {f : α → V} {R : α → Prop} : ∀ {ys : List V}, (∀ y ∈ ys, ∃ x, y = f x ∧ R x) → ∃ xs : List α, ys = xs.map f ∧ ∀ x ∈ xs, R x
  | [], _ => ⟨[], rfl, fun x h => by cases h⟩
  | y :: r, h => by
    obtain ⟨x, rfl, hx⟩ := h y (List.mem_cons_self ..)
    obtain ⟨xs, rfl, hr⟩ := all_map (f := f) (R := R) fun z hz => h z (List.mem_cons_of_mem _ hz)
    exact ⟨x :: xs, rfl, fun z hz => by
      rcases List.mem_cons.mp hz with e | e
      · rw [e]; exact hx
      · exact hr z e⟩
/-- int(a truth value) -/
def rIntB : List V → Hp → VK → Prop := fun xs H Q => ∃ k : Bool, xs = [.bl k] ∧ Q (.int (if k then 1 else 0)) H
theorem c_intB {X : Cx} : CallR X (.type "int") rIntB := by
  intro pins s σ H xs us Q I r h
  obtain ⟨k, rfl, q⟩ := h
  exact call_int1 pins s σ H _ us Q I r (.inr ⟨k, rfl, q⟩)
theorem w_intB {H : Hp} {Q : VK} {k : Bool} (q : Q (.int (if k then 1 else 0)) H) : rIntB [.bl k] H Q := ⟨k, rfl, q⟩
theorem w_ixS {z : Str} {i : Int} {c : Nat} {H : Hp} {Q : VK} (hz : z.length ≤ 1000000) (h : atI z.cps.toList i = some c) (q : Q (.str ⟨#[c]⟩) H) : rIxS (.str z) (.int i) H Q :=
  ⟨z, i, c, rfl, rfl, Nat.le_trans hz (by rw [sizeLine_eq]; decide), h, q⟩
theorem w_slS {z : Str} {lo hi : Option Int} {H : Hp} {Q : VK} (hz : z.length ≤ 1000000) (q : Q (.str (cutS z lo hi)) H) : rSlS (.str z) lo hi H Q := ⟨z, rfl, Nat.le_trans hz (by rw [sizeLine_eq]; decide), q⟩
/-- ''.join -/
def rJoin (K : PySem.W.Frag) : V → List V → Hp → VK → Prop := fun x xs H Q => ∃ a p, ∃ ys : List Str, x = .str a ∧ xs = [.ref p] ∧ (SqL K H p (ys.map V.str) ∨ SqT K H p (ys.map V.str)) ∧
    (ys.map (·.length)).sum + ys.length * a.length ≤ 16777216 ∧ Q (.str (Txt.join a ys)) H
theorem p_join {X : Cx} {o e : Expr} {to te : TE} {apos pos : Pos} (K : PySem.W.Frag) (ho : PE X o to) (he : PE X e te) (hs : starEach [e] X.env = [(false, eval e X.env)] := by rfl) (hbase : attributeBase o "join" X.env (eval o X.env) = eval o X.env := by rfl) (hline : (apos.endLine == pos.line) = true := by rfl) (hK : X.K = K := by rfl) :
    PE X (.Call (.Attribute o "join" apos) [e] [] pos) (tM1 (rJoin K) to te) := by
  subst hK
  exact pe_join ho he hs hbase hline
def M11 (f : V → List V → Hp → VK → Prop) (te : TE) (σ : L2.St) (Q : VK) (x : V) (H1 : Hp) : Prop := (∃ a, x = .str a) ∧ te σ H1 fun y H2 => f x [y] H2 Q
theorem w_tm1 {f : V → List V → Hp → VK → Prop} {to te : TE} {σ : L2.St} {H : Hp} {Q : VK} (h : to σ H fun x H1 => M11 f te σ Q x H1) : tM1 f to te σ H Q := h
theorem w_M11 {f : V → List V → Hp → VK → Prop} {te : TE} {σ : L2.St} {H : Hp} {Q : VK} {a : Str} (h : te σ H fun y H2 => f (.str a) [y] H2 Q) : M11 f te σ Q (.str a) H := ⟨⟨a, rfl⟩, h⟩
theorem w_join {K : PySem.W.Frag} {H : Hp} {Q : VK} {a : Str} {p : Addr} {ys : List Str} (h : SqL K H p (ys.map V.str)) (hz : (ys.map (·.length)).sum + ys.length * a.length ≤ 16777216) (q : Q (.str (Txt.join a ys)) H) : rJoin K (.str a) [.ref p] H Q :=
  ⟨a, p, ys, rfl, rfl, .inl h, hz, q⟩
/-! x in a list, in a tuple -/
theorem w_inL {K : PySem.W.Frag} {H : Hp} {Q : VK} {x : V} {p : Addr} {xs : List V} (h : SqL K H p xs) (hx : flatV x = true) (ha : xs.all flatV = true) (q : Q (.bl (inV x xs)) H) : rIn K false x (.ref p) H Q := ⟨p, xs, rfl, .inl h, hx, ha, q⟩
theorem w_inT {K : PySem.W.Frag} {H : Hp} {Q : VK} {x : V} {p : Addr} {xs : List V} (h : SqT K H p xs) (hx : flatV x = true) (ha : xs.all flatV = true) (q : Q (.bl (inV x xs)) H) : rIn K false x (.ref p) H Q := ⟨p, xs, rfl, .inr h, hx, ha, q⟩
theorem op_inK {X : Cx} (K : PySem.W.Frag) (e : X.K = K := by rfl) : OpR X (compareOp .In) (rIn K false) := by subst e; exact op_in_seq
theorem w_niL {K : PySem.W.Frag} {H : Hp} {Q : VK} {x : V} {p : Addr} {xs : List V} (h : SqL K H p xs) (hx : flatV x = true) (ha : xs.all flatV = true) (q : Q (.bl (!inV x xs)) H) : rIn K true x (.ref p) H Q := ⟨p, xs, rfl, .inl h, hx, ha, q⟩
theorem w_niT {K : PySem.W.Frag} {H : Hp} {Q : VK} {x : V} {p : Addr} {xs : List V} (h : SqT K H p xs) (hx : flatV x = true) (ha : xs.all flatV = true) (q : Q (.bl (!inV x xs)) H) : rIn K true x (.ref p) H Q := ⟨p, xs, rfl, .inr h, hx, ha, q⟩
theorem op_niK {X : Cx} (K : PySem.W.Frag) (e : X.K = K := by rfl) : OpR X (compareOp .NotIn) (rIn K true) := by subst e; exact op_notIn_seq
end Dpr

namespace Dpr
open PySem PySem.Spec PyProof.Rows L2 PySem.SeqAt
open MeetsSeq MeetsSeq2 MeetsSeq3 SeqRoads2
/-! != of two lists whose items are alike -/
abbrev LstO (d : Option Addr) (xs : Array Value) (n : Nat) (z : Array (Option Value)) : Obj := { cls := .type "list", dict := d, data := .seq xs n, slots := z }
theorem unlike_loop {pr : Program} {wd : World} {p q : Addr} {xs ys : Array Value} {n m : Nat} {d d' : Option Addr} {z z' : Array (Option Value)} (same : xs.size = ys.size) : ∀ (left i : Nat), xs.size - i = left →
    MeetsIn pr wd (Builtin.«list.__eq__.loop» ⟨[.ref p, .ref q, rawInt i, rawInt 3], []⟩) fun A R s => s.heap.get? p = some (LstO d xs n z) ∧ s.heap.get? q = some (LstO d' ys m z') ∧
      (∀ j (u : j < xs.size) (v : j < ys.size), EqP pr wd A.in1 s xs[j] ys[j] true) ∧ R (.ok (.ret (.bool false))) s := by
  intro left
  induction left with
  | zero =>
    intro i gone A R st ⟨gp, gq, alike, r⟩
    obtain ⟨hp, gl, dd, tk, os⟩ := st
    wp_walk using AutoSeq1.wpAny_loadPart' gp, AutoSeq1.wpAny_loadPart' gq
    have n1 : xs[((i : Nat) : Int).toNat]? = none := Array.getElem?_eq_none (by rw [Int.toNat_natCast]; omega)
    have n2 : ys[((i : Nat) : Int).toNat]? = none := Array.getElem?_eq_none (by rw [Int.toNat_natCast]; omega)
    rw [n1, n2]
    wp_walk using AutoSeq1.wpAny_loadPart' gp, AutoSeq1.wpAny_loadPart' gq
    show R (.ok (.ret (.bool (xs.size != ys.size)))) _
    rw [same, bne_self_eq_false]
    exact r
  | succ left again =>
    intro i gone A R st ⟨gp, gq, alike, r⟩
    obtain ⟨hp, gl, dd, tk, os⟩ := st
    wp_walk using AutoSeq1.wpAny_loadPart' gp, AutoSeq1.wpAny_loadPart' gq
    have u : i < xs.size := by omega
    have v : i < ys.size := by omega
    have n1 : xs[((i : Nat) : Int).toNat]? = some xs[i] := by rw [Int.toNat_natCast]; exact Array.getElem?_eq_getElem u
    have n2 : ys[((i : Nat) : Int).toNat]? = some ys[i] := by rw [Int.toNat_natCast]; exact Array.getElem?_eq_getElem v
    rw [n1, n2]
    refine wpAny_bind (alike i u v _ _ ?_)
    wp_walk
    rw [show ((i : Int) + 1) = ((i + 1 : Nat) : Int) from rfl]
    exact ⟨plainId_quiet plain_eq_loop _, codeAny_builtin entry_eq_loop (by rw [Around.under_plainId plain_eq_loop _]; exact again (i + 1) (by omega) A R _ ⟨gp, gq, alike, r⟩)⟩
theorem unlike_list {pr : Program} {wd : World} {p q : Addr} {xs ys : Array Value} {n m : Nat} {d d' : Option Addr} {z z' : Array (Option Value)} (same : xs.size = ys.size) :
    MeetsIn pr wd (Builtin.«list.__ne__» ⟨[.ref p, .ref q], []⟩) fun A R s => s.heap.get? p = some (LstO d xs n z) ∧ s.heap.get? q = some (LstO d' ys m z') ∧
      (∀ j (u : j < xs.size) (v : j < ys.size), EqP pr wd A.in1 s xs[j] ys[j] true) ∧ R (.ok (.ret (.bool false))) s := by
  intro A R st ⟨gp, gq, alike, r⟩
  obtain ⟨hp, gl, dd, tk, os⟩ := st
  have sub := AutoSeq1.sub_list_list
  have nosz : ¬ (xs.size != ys.size) = true := by rw [same, bne_self_eq_false]; exact Bool.false_ne_true
  wp_walk using AutoSeq1.wpAny_loadPart' gp, AutoSeq1.wpAny_loadPart' gq
  exact ⟨plainId_quiet plain_eq_loop _, codeAny_builtin entry_eq_loop (by rw [Around.under_plainId plain_eq_loop _]; exact unlike_loop same _ 0 rfl A R _ ⟨gp, gq, alike, r⟩)⟩
theorem rc_unlike {pr : Program} {wd : World} {A : Around} {s : Shared} {p q : Addr} {xs ys : Array Value} (lp : s.heap.IsList p xs) (lq : s.heap.IsList q ys) (same : xs.size = ys.size) (room : A.units < cLine)
    (alike : ∀ j (u : j < xs.size) (v : j < ys.size), EqP pr wd A.in1 s xs[j] ys[j] true) (E Q : Value → Shared → Prop) (h : Q (.bool false) s) : wpAny (model pr wd) A (richCompare .NotEq (.ref p) (.ref q)) Q E s := by
  obtain ⟨⟨c, d, t, z⟩, gp, cp, n, tp⟩ := id lp
  obtain ⟨⟨c', d', t', z'⟩, gq, cq, m, tq⟩ := id lq
  simp only at cp tp cq tq
  subst cp tp cq tq
  have ip : s.TypeIs (.ref p) "list" := ⟨_, gp, rfl⟩
  have iq : s.TypeIs (.ref q) "list" := ⟨_, gq, rfl⟩
  exact wpAny_richCompare_same_room (op := .NotEq) ip iq F.slot_list_ne (call_meetsIn F.slot_list_ne ip F.entry_list_ne (F.args_list_ne_2 _ _) (unlike_list same) ⟨gp, gq, alike, show Value.bool false ≠ Value.notImplemented ∧ Q (.bool false) s from ⟨(fun z => nomatch z), h⟩⟩) room
/-- a != b, two lists of alike items -/
def rNeV (K : PySem.W.Frag) : R2 := fun x y H Q => ∃ n, n ≤ 60 ∧ (∃ a b xs ys, x = .ref a ∧ y = .ref b ∧ SqL K H a xs ∧ SqL K H b ys ∧ Paired (EqV K H n) xs ys) ∧ Q (.bl false) H
theorem op_neV {X : Cx} (hu : X.A.units + 64 < cLine) (K : PySem.W.Frag) (e : X.K = K := by rfl) : OpR X (compareOp .NotEq) (rNeV K) := by
  subst e
  intro pins s σ H x y v u Q I rx ry h
  obtain ⟨n, hn, ⟨a, b, xs, ys, rfl, rfl, ha, hb, hp⟩, q⟩ := h
  cases (show v = Value.ref a from rx)
  cases (show u = Value.ref b from ry)
  obtain ⟨us, r1, p1, _⟩ := I.list ha
  obtain ⟨ws, r2, p2, _⟩ := I.list hb
  have sz : us.toArray.size = ws.toArray.size := by
    rw [List.size_toArray, List.size_toArray, ← r1.length, ← r2.length]
    exact Paired.length hp
  refine rc_unlike p1.isList p2.isList sz (by omega) (fun j u v => ?_) _ _ ⟨.bl false, H, I, rfl, q⟩
  have k := items_run (eqV_run I n X.A.in1 (by show X.A.units + 1 + n < cLine; omega)) hp r1 r2 j (by simpa using u) (by simpa using v)
  simpa using k
end Dpr

namespace Dpr
open PySem PySem.Spec PyProof.Rows L2
/-! ### rows of gates -/
inductive Bop where
  | and | or | xor
  deriving DecidableEq
inductive Row where
  | fix (b : Int) | inn (n : Str) (k : Nat) | inv (a : Nat) | bin (o : Bop) (a b : Nat) | lat (a : Nat)
  deriving DecidableEq
def bopS : Bop → Str
  | .and => "and" | .or => "or" | .xor => "xor"
def rowV : Row → List V
  | .fix b => [.str "fix", .int b]
  | .inn n k => [.str "in", .str n, .int (k : Int)]
  | .inv a => [.str "not", .int (a : Int)]
  | .bin o a b => [.str (bopS o), .int (a : Int), .int (b : Int)]
  | .lat a => [.str "latch", .int (a : Int)]
def RowAt (H : Hp) (p : Addr) (r : Row) : Prop := H p = some (.tup (rowV r))
/-- a list of rows that may be read -/
def RowsL (K : PySem.W.Frag) (H : Hp) (a : Addr) (rs : List Row) : Prop := ∃ ps : List Addr, SqL K H a (ps.map V.ref) ∧ A2 (RowAt H) ps rs
/-- one of our own, that may change -/
def RowsM (H : Hp) (a : Addr) (rs : List Row) : Prop := ∃ ps : List Addr, H a = some (.lst (ps.map V.ref)) ∧ A2 (RowAt H) ps rs
theorem RowsL.same {K : PySem.W.Frag} {H H' : Hp} {a : Addr} {rs : List Row} (s : Same H H') (h : RowsL K H a rs) : RowsL K H' a rs := by
  obtain ⟨ps, h1, h2⟩ := h
  exact ⟨ps, s.seq h1, h2.mono fun p r e => s _ _ e⟩
theorem RowsM.same {H H' : Hp} {a : Addr} {rs : List Row} (s : Same H H') (h : RowsM H a rs) : RowsM H' a rs := by
  obtain ⟨ps, h1, h2⟩ := h
  exact ⟨ps, s _ _ h1, h2.mono fun p r e => s _ _ e⟩
theorem RowsM.read {K : PySem.W.Frag} {H : Hp} {a : Addr} {rs : List Row} (h : RowsM H a rs) : RowsL K H a rs := by
  obtain ⟨ps, h1, h2⟩ := h
  exact ⟨ps, SqL.of h1, h2⟩
/-! numbers by names -/
def wkv (ws : List (Str × Int)) : List (Key × V) := ws.map fun p => (Sum.inr p.1, V.int p.2)
def lookW (ws : List (Str × Int)) (n : Str) : Option Int := (ws.find? fun p => decide (p.1 = n)).map (·.2)
theorem valV_wkv (n : Str) : ∀ ws : List (Str × Int), valV (wkv ws) (Sum.inr n) = (lookW ws n).map V.int
  | [] => rfl
  | p :: r => by
    have ih := valV_wkv n r
    by_cases e : p.1 = n
    · rw [show wkv (p :: r) = (Sum.inr p.1, V.int p.2) :: wkv r from rfl, valV_pos (by rw [e])]
      unfold lookW
      rw [List.find?_cons_of_pos (by simpa using e)]
      rfl
    · rw [show wkv (p :: r) = (Sum.inr p.1, V.int p.2) :: wkv r from rfl, valV_neg (fun z => e (Sum.inr.inj z)), ih]
      unfold lookW
      rw [List.find?_cons_of_neg (by simpa using e)]
theorem lookW_hit {n : Str} {v : Int} {ws : List (Str × Int)} : lookW ((n, v) :: ws) n = some v := by
  unfold lookW
  rw [List.find?_cons_of_pos (by simp)]
  rfl
theorem lookW_skip {m n : Str} {v : Int} {ws : List (Str × Int)} (h : decide (m = n) = false) : lookW ((m, v) :: ws) n = lookW ws n := by
  unfold lookW
  rw [List.find?_cons_of_neg (by simpa using h)]
/-! what a gate tells -/
def bopI (o : Bop) (x y : Int) : Int := match o with
  | .and => x * y
  | .or => x + y - x * y
  | .xor => (x + y) % 2
def gateI (ws : List (Str × Int)) (bits : List Int) : Row → Int
  | .fix b => b
  | .inn n k => (lookW ws n).getD 0 / 2 ^ k % 2
  | .inv a => 1 - bits.getD a 0
  | .bin o a b => bopI o (bits.getD a 0) (bits.getD b 0)
  | .lat _ => 0
def is01 (x : Int) : Prop := x = 0 ∨ x = 1
def RowOk (N : Str → Prop) (n : Nat) : Row → Prop
  | .fix b => is01 b
  | .inn m k => N m ∧ k < 64
  | .inv a => a < n
  | .bin _ a b => a < n ∧ b < n
  | .lat a => a < n
def noLat : Row → Prop
  | .lat _ => False
  | _ => True
def RowsOk (N : Str → Prop) (rs : List Row) : Prop := ∀ (i : Nat) r, rs[i]? = some r → RowOk N i r
def NoLats (rs : List Row) : Prop := ∀ r ∈ rs, noLat r
/-- all names have numbers -/
def Has (N : Str → Prop) (ws : List (Str × Int)) : Prop := ∀ n, N n → ∃ v, lookW ws n = some v
def toldL (ws : List (Str × Int)) (rs : List Row) : List Int := rs.foldl (fun bits r => bits ++ [gateI ws bits r]) []
theorem toldL_snoc (ws : List (Str × Int)) (rs : List Row) (r : Row) : toldL ws (rs ++ [r]) = toldL ws rs ++ [gateI ws (toldL ws rs) r] := by
  unfold toldL
  rw [List.foldl_append]
  rfl
theorem take_snoc {α : Type} {xs : List α} {i : Nat} {x : α} (h : xs[i]? = some x) : xs.take (i + 1) = xs.take i ++ [x] := by
  rw [List.take_add_one, h]
  rfl
theorem toldL_len (ws : List (Str × Int)) (rs : List Row) : (toldL ws rs).length = rs.length := by
  have key : ∀ (rs : List Row) (acc : List Int), (rs.foldl (fun bits r => bits ++ [gateI ws bits r]) acc).length = acc.length + rs.length := by
    intro rs
    induction rs with
    | nil => intro acc; rfl
    | cons r rs ih =>
      intro acc
      rw [List.foldl_cons, ih, List.length_append, List.length_singleton, List.length_cons]
      omega
  unfold toldL
  rw [key]
  exact Nat.zero_add _
def All01 (bs : List Int) : Prop := ∀ x ∈ bs, is01 x
theorem all01_get {bs : List Int} (h : All01 bs) (i : Nat) : is01 (bs.getD i 0) := by
  rw [List.getD_eq_getElem?_getD]
  cases e : bs[i]? with
  | none => exact .inl rfl
  | some x => exact h x (List.mem_of_getElem? e)
theorem bopI_01 (o : Bop) {x y : Int} (hx : is01 x) (hy : is01 y) : is01 (bopI o x y) := by
  unfold is01 at *
  cases o <;> unfold bopI <;> rcases hx with rfl | rfl <;> rcases hy with rfl | rfl <;> decide
theorem gateI_01 {N : Str → Prop} {n : Nat} {r : Row} (ws : List (Str × Int)) {bs : List Int} (h : All01 bs) (ok : RowOk N n r) : is01 (gateI ws bs r) := by
  cases r with
  | fix b => exact ok
  | inn m k =>
    show (lookW ws m).getD 0 / 2 ^ k % 2 = 0 ∨ (lookW ws m).getD 0 / 2 ^ k % 2 = 1
    omega
  | inv a =>
    have q : bs.getD a 0 = 0 ∨ bs.getD a 0 = 1 := all01_get h a
    show 1 - bs.getD a 0 = 0 ∨ 1 - bs.getD a 0 = 1
    omega
  | bin o a b => exact bopI_01 o (all01_get h a) (all01_get h b)
  | lat a => exact .inl rfl
theorem toldL_01 {N : Str → Prop} (ws : List (Str × Int)) {rs : List Row} (ok : RowsOk N rs) : ∀ i, All01 (toldL ws (rs.take i))
  | 0 => fun x hx => by cases hx
  | i + 1 => by
    have ih := toldL_01 ws ok i
    cases e : rs[i]? with
    | none =>
      have : rs.take (i + 1) = rs.take i := by rw [List.take_add_one, e]; exact List.append_nil _
      rw [this]
      exact ih
    | some r =>
      rw [take_snoc e, toldL_snoc]
      intro x hx
      rcases List.mem_append.mp hx with q | q
      · exact ih x q
      · rw [List.mem_singleton.mp q]
        exact gateI_01 ws ih (ok i r e)
/-- a bit by its place -/
theorem bit_get {bs : List Int} {a : Nat} (h : a < bs.length) : atI (bs.map V.int) (a : Int) = some (.int (bs.getD a 0)) := by
  rw [get_int h, List.getD_eq_getElem?_getD, List.getElem?_eq_getElem h]
  rfl
/-! rows that are put -/
theorem rowAt_upd {H : Hp} {a p : Addr} {xs ys : List V} {r : Row} (h : H a = some (.lst xs)) (hp : RowAt H p r) : RowAt (upd H a (.lst ys)) p r := by
  have ne : p ≠ a := fun e => by
    rw [e] at hp
    exact absurd (hp.symm.trans h) (fun z => by cases z)
  show upd H a (.lst ys) p = _
  rw [upd_ne ne]
  exact hp
theorem RowsM.push {H : Hp} {a p : Addr} {rs : List Row} {r : Row} {ps : List Addr} (h : H a = some (.lst (ps.map V.ref))) (hA : A2 (RowAt H) ps rs) (hp : RowAt H p r) : RowsM (upd H a (.lst (ps.map V.ref ++ [.ref p]))) a (rs ++ [r]) :=
  ⟨ps ++ [p], by rw [upd_same, List.map_append]; rfl, (hA.mono fun _ _ e => rowAt_upd h e).snoc (rowAt_upd h hp)⟩
theorem RowsM.upd {H : Hp} {a b : Addr} {rs : List Row} {xs ys : List V} (ne : a ≠ b) (h : H b = some (.lst xs)) (hr : RowsM H a rs) : RowsM (upd H b (.lst ys)) a rs := by
  obtain ⟨ps, h1, h2⟩ := hr
  exact ⟨ps, by rw [upd_ne ne]; exact h1, h2.mono fun _ _ e => rowAt_upd h e⟩
theorem RowsM.len {H : Hp} {a : Addr} {rs : List Row} (h : RowsM H a rs) : ∃ ps : List Addr, H a = some (.lst (ps.map V.ref)) ∧ A2 (RowAt H) ps rs ∧ ps.length = rs.length := by
  obtain ⟨ps, h1, h2⟩ := h
  exact ⟨ps, h1, h2, h2.1⟩
theorem RowsOk.snoc {N : Str → Prop} {rs : List Row} {r : Row} (h : RowsOk N rs) (k : RowOk N rs.length r) : RowsOk N (rs ++ [r]) := by
  intro i x hx
  rcases Nat.lt_trichotomy i rs.length with q | q | q
  · rw [List.getElem?_append_left q] at hx
    exact h i x hx
  · subst q
    rw [List.getElem?_append_right (Nat.le_refl _), Nat.sub_self] at hx
    cases hx
    exact k
  · rw [List.getElem?_eq_none (by rw [List.length_append]; exact q)] at hx
    cases hx
theorem NoLats.snoc {rs : List Row} {r : Row} (h : NoLats rs) (k : noLat r) : NoLats (rs ++ [r]) := by
  intro x hx
  rcases List.mem_append.mp hx with q | q
  · exact h x q
  · rw [List.mem_singleton.mp q]
    exact k
/-! rows as data -/
def rowD : Row → PyData
  | .fix b => .tuple [.str "fix", .int b]
  | .inn n k => .tuple [.str "in", .str n, .int (k : Int)]
  | .inv a => .tuple [.str "not", .int (a : Int)]
  | .bin o a b => .tuple [.str (bopS o), .int (a : Int), .int (b : Int)]
  | .lat a => .tuple [.str "latch", .int (a : Int)]
theorem dp_row {K : PySem.W.Frag} {H : Hp} {p : Addr} {r : Row} (h : RowAt H p r) : Dp K H (.ref p) (rowD r) := by
  cases r with
  | fix b => exact .tup (SqT.of h) (.cons (.str _) (.cons (.int _) .nil))
  | inn n k => exact .tup (SqT.of h) (.cons (.str _) (.cons (.str _) (.cons (.int _) .nil)))
  | inv a => exact .tup (SqT.of h) (.cons (.str _) (.cons (.int _) .nil))
  | bin o a b => exact .tup (SqT.of h) (.cons (.str _) (.cons (.int _) (.cons (.int _) .nil)))
  | lat a => exact .tup (SqT.of h) (.cons (.str _) (.cons (.int _) .nil))
theorem A2.tail {α β : Type} {R : α → β → Prop} {x : α} {y : β} {xs : List α} {ys : List β} (h : A2 R (x :: xs) (y :: ys)) : R x y ∧ A2 R xs ys :=
  ⟨h.2 0 x y rfl rfl, by have := h.1; simp only [List.length_cons] at this; omega, fun i u v hu hv => h.2 (i + 1) u v hu hv⟩
theorem dp_rows {K : PySem.W.Frag} {H : Hp} : ∀ {ps : List Addr} {rs : List Row}, A2 (RowAt H) ps rs → DpAll K H (ps.map V.ref) (rs.map rowD)
  | [], [], _ => .nil
  | [], _ :: _, h => by have := h.1; simp at this
  | _ :: _, [], h => by have := h.1; simp at this
  | p :: ps, r :: rs, h => .cons (dp_row h.tail.1) (dp_rows h.tail.2)
def NmOk (r : Row) : Prop := match r with
  | .inn n _ => PyData.strOk n = true
  | _ => True
theorem lay_row {r : Row} (h : NmOk r) : PyData.canLay0 (rowD r) = true := by
  cases r with
  | fix b =>
    show (PyData.strOk "fix" && (true && true)) = true
    decide +kernel
  | inn n k =>
    show (PyData.strOk "in" && (PyData.strOk n && (true && true))) = true
    rw [show PyData.strOk n = true from h]
    decide +kernel
  | inv a =>
    show (PyData.strOk "not" && (true && true)) = true
    decide +kernel
  | bin o a b =>
    show (PyData.strOk (bopS o) && (true && (true && true))) = true
    cases o <;> decide +kernel
  | lat a =>
    show (PyData.strOk "latch" && (true && true)) = true
    decide +kernel
theorem lay_rows : ∀ {rs : List Row}, (∀ r ∈ rs, NmOk r) → PyData.canLayAll0 (rs.map rowD) = true
  | [], _ => rfl
  | r :: rs, h => by
    show (PyData.canLay0 (rowD r) && PyData.canLayAll0 (rs.map rowD)) = true
    rw [lay_row (h r (List.mem_cons_self ..)), lay_rows fun x hx => h x (List.mem_cons_of_mem _ hx)]
    rfl
theorem depth_row (r : Row) : PyData.depth (rowD r) ≤ 1 := by
  cases r <;> exact Nat.le_of_ble_eq_true rfl
theorem depth_rows : ∀ rs : List Row, PyData.depthAll (rs.map rowD) ≤ 1
  | [] => Nat.zero_le 1
  | r :: rs => Nat.max_le.mpr ⟨depth_row r, depth_rows rs⟩
theorem shaped_rows {rs : List Row} (h : ∀ r ∈ rs, NmOk r) : SeqAt.shaped (.list (rs.map rowD)) = true := by
  unfold SeqAt.shaped
  rw [show PyData.canLay0 (.list (rs.map rowD)) = true from lay_rows h, Bool.true_and]
  have := depth_rows rs
  exact decide_eq_true (show PyData.depthAll (rs.map rowD) + 1 ≤ 64 by omega)
/-! dicts of numbers compared, copied -/
theorem flat_wkv (ws : List (Str × Int)) : ∀ p ∈ wkv ws, flatB p.2 = true := by
  intro p hp
  obtain ⟨q, _, rfl⟩ := List.mem_map.mp hp
  rfl
theorem valV_self : ∀ {ws : List (Str × Int)}, (ws.map (·.1)).Nodup → ∀ p ∈ wkv ws, valV (wkv ws) p.1 = some p.2
  | [], _, p, hp => by cases hp
  | q :: r, h, p, hp => by
    obtain ⟨h1, h2⟩ := List.nodup_cons.mp (show (q.1 :: r.map (·.1)).Nodup from h)
    rcases List.mem_cons.mp hp with e | e
    · rw [e]
      exact valV_pos rfl
    · have ih := valV_self h2 p e
      obtain ⟨z, hz, rfl⟩ := List.mem_map.mp e
      have ne : ¬ q.1 = z.1 := fun w => h1 (by rw [w]; exact List.mem_map.mpr ⟨z, hz, rfl⟩)
      rw [show wkv (q :: r) = (Sum.inr q.1, V.int q.2) :: wkv r from rfl, valV_neg (fun w => ne (Sum.inr.inj w))]
      exact ih
theorem w_eqDict {H : Hp} {Q : VK} {a b : Addr} {ws : List (Str × Int)} (h1 : H a = some (.dK (wkv ws))) (h2 : H b = some (.dK (wkv ws))) (nd : (ws.map (·.1)).Nodup) (q : Q (.bl true) H) : rEqDA (.ref a) (.ref b) H Q :=
  ⟨a, b, _, _, rfl, rfl, h1, h2, rfl, fun p hp => ⟨valV_self nd p hp, flat_wkv ws p hp⟩, q⟩
theorem w_neDict {H : Hp} {Q : VK} {a b : Addr} {ws : List (Str × Int)} (h1 : H a = some (.dK (wkv ws))) (h2 : H b = some (.dK (wkv ws))) (nd : (ws.map (·.1)).Nodup) (q : Q (.bl false) H) : rNeDA (.ref a) (.ref b) H Q :=
  ⟨a, b, _, _, rfl, rfl, h1, h2, rfl, fun p hp => ⟨valV_self nd p hp, flat_wkv ws p hp⟩, q⟩
def rDictD : List V → Hp → VK → Prop := fun xs H Q => ∃ (a : Addr) (kvs : List (Key × V)), xs = [.ref a] ∧ Rd H a (.dK kvs) ∧ ∀ p, H p = none → Q (.ref p) (upd H p (.dK kvs))
theorem c_dictD {X : Cx} : CallR X (.type "dict") rDictD := call_dictD
theorem w_dictD {H : Hp} {Q : VK} {a : Addr} {kvs : List (Key × V)} (h : H a = some (.dK kvs)) (q : ∀ p H', H p = none → Same H H' → H' p = some (.dK kvs) → Q (.ref p) H') : rDictD [.ref a] H Q :=
  ⟨a, kvs, rfl, .inl h, fun p hp => q p _ hp (same_upd hp) upd_same⟩
/-! a written dict -/
def DspE (p : Addr) (Q : VK) (ps : List (V × V)) (H2 : Hp) : Prop := H2 p = some (.dK []) ∧ ∃ kvs : List (Key × V), ps = kvs.map (fun kv => (kV kv.1, kv.2)) ∧ kvs.length ≤ 15 ∧ Q (.ref p) (upd H2 p (.dK (mergeK [] kvs)))
theorem w_disp {σ : L2.St} {H : Hp} {Q : VK} {trs : List (TE × TE)} (h : ∀ p H', H p = none → Same H H' → H' p = some (.dK []) → tPairs trs σ H' fun ps H2 => DspE p Q ps H2) : tDisp trs σ H Q := fun p hp => h p _ hp (same_upd hp) upd_same
theorem w_pairs {σ : L2.St} {H : Hp} {tk tv : TE} {r : List (TE × TE)} {R : List (V × V) → Hp → Prop} (h : tk σ H fun x H1 => tv σ H1 fun y H2 => tPairs r σ H2 fun ps H3 => R ((x, y) :: ps) H3) : tPairs ((tk, tv) :: r) σ H R := h
theorem w_pairs0 {σ : L2.St} {H : Hp} {R : List (V × V) → Hp → Prop} (h : R [] H) : tPairs [] σ H R := h
theorem w_DspE {p : Addr} {Q : VK} {ps : List (V × V)} {H2 : Hp} (ws : List (Str × Int)) (nd : (ws.map (·.1)).Nodup) (e : H2 p = some (.dK [])) (ep : ps = (wkv ws).map (fun kv => (kV kv.1, kv.2))) (hl : ws.length ≤ 15) (q : ∀ H', H' p = some (.dK (wkv ws)) → (∀ H0, Same H0 H2 → H0 p = none → Same H0 H') → Q (.ref p) H') : DspE p Q ps H2 := by
  refine ⟨e, wkv ws, ep, by rw [wkv, List.length_map]; exact hl, ?_⟩
  have key : ∀ (r acc : List (Str × Int)), ((acc ++ r).map (·.1)).Nodup → mergeK (wkv acc) (wkv r) = wkv (acc ++ r) := by
    intro r
    induction r with
    | nil => intro acc _; rw [List.append_nil]; rfl
    | cons z r ih =>
      intro acc hn
      have hz : valV (wkv acc) (Sum.inr z.1) = none := by
        cases g : valV (wkv acc) (Sum.inr z.1) with
        | none => rfl
        | some v =>
          have m := valV_in g
          obtain ⟨u, hu, eu⟩ := List.mem_map.mp m
          obtain ⟨t, ht, rfl⟩ := List.mem_map.mp hu
          have e1 : t.1 = z.1 := Sum.inr.inj eu
          rw [List.map_append, List.map_cons] at hn
          have d := (List.nodup_append.mp hn).2.2 t.1 (List.mem_map.mpr ⟨t, ht, rfl⟩) z.1 (List.mem_cons_self ..)
          exact absurd e1 d
      show mergeK (putK (wkv acc) (Sum.inr z.1) (V.int z.2)) (wkv r) = _
      rw [putK_new _ hz]
      have e2 : wkv acc ++ [((Sum.inr z.1 : Key), V.int z.2)] = wkv (acc ++ [z]) := by
        unfold wkv
        rw [List.map_append]
        rfl
      rw [e2, ih (acc ++ [z]) (by rw [List.append_assoc]; exact hn), List.append_assoc]
      rfl
  have := key ws [] nd
  rw [show mergeK [] (wkv ws) = wkv ws from this]
  exact q _ upd_same fun H0 s n => same_mut s n
end Dpr

namespace Dpr
open PySem PySem.Spec PyProof.Rows L2
/-! a number put by its name -/
def putW (ws : List (Str × Int)) (n : Str) (v : Int) : List (Str × Int) :=
  if (ws.any fun kv => decide (kv.1 = n)) = true then ws.map (fun kv => if kv.1 = n then (kv.1, v) else kv) else ws ++ [(n, v)]
theorem put_wkv (ws : List (Str × Int)) (n : Str) (v : Int) : putK (wkv ws) (Sum.inr n) (V.int v) = wkv (putW ws n v) := by
  have e : ((wkv ws).any fun kv => decide (kv.1 = (Sum.inr n : Key))) = (ws.any fun kv => decide (kv.1 = n)) := by
    induction ws with
    | nil => rfl
    | cons p r ih =>
      show (decide ((Sum.inr p.1 : Key) = Sum.inr n) || (wkv r).any _) = (decide (p.1 = n) || r.any _)
      rw [ih]
      by_cases e : p.1 = n
      · rw [decide_eq_true e, decide_eq_true (by rw [e])]
      · rw [decide_eq_false e, decide_eq_false (fun z => e (Sum.inr.inj z))]
  unfold putK putW
  rw [e]
  split
  · unfold wkv
    rw [List.map_map, List.map_map]
    refine List.map_congr_left fun p _ => ?_
    show (if (Sum.inr p.1 : Key) = Sum.inr n then ((Sum.inr p.1 : Key), V.int v) else (Sum.inr p.1, V.int p.2)) = _
    by_cases e : p.1 = n
    · rw [if_pos (by rw [e])]
      show _ = (Sum.inr (if p.1 = n then (p.1, v) else p).1, V.int (if p.1 = n then (p.1, v) else p).2)
      rw [if_pos e]
    · rw [if_neg (fun z => e (Sum.inr.inj z))]
      show _ = (Sum.inr (if p.1 = n then (p.1, v) else p).1, V.int (if p.1 = n then (p.1, v) else p).2)
      rw [if_neg e]
  · unfold wkv
    rw [List.map_append]
    rfl
theorem putW_len (ws : List (Str × Int)) (n : Str) (v : Int) : (putW ws n v).length ≤ ws.length + 1 := by
  unfold putW
  split
  · rw [List.length_map]; omega
  · rw [List.length_append, List.length_cons, List.length_nil]; omega
theorem look_put (ws : List (Str × Int)) (n m : Str) (v : Int) : lookW (putW ws n v) m = if m = n then some v else lookW ws m := by
  have e := valV_wkv m (putW ws n v)
  rw [← put_wkv, valV_put, valV_wkv] at e
  by_cases h : m = n
  · rw [if_pos h]
    rw [if_pos (by rw [h])] at e
    cases g : lookW (putW ws n v) m with
    | none => rw [g] at e; cases e
    | some x => rw [g] at e; cases e; rfl
  · rw [if_neg h]
    rw [if_neg (fun z => h (Sum.inr.inj z))] at e
    cases g : lookW (putW ws n v) m with
    | none =>
      rw [g] at e
      cases g2 : lookW ws m with
      | none => rfl
      | some x => rw [g2] at e; cases e
    | some x =>
      rw [g] at e
      cases g2 : lookW ws m with
      | none => rw [g2] at e; cases e
      | some y => rw [g2] at e; cases e; rfl
theorem putW_keys {ws : List (Str × Int)} {n : Str} {v : Int} (h : (ws.any fun kv => decide (kv.1 = n)) = true) : (putW ws n v).map (·.1) = ws.map (·.1) := by
  unfold putW
  rw [if_pos h, List.map_map]
  refine List.map_congr_left fun p _ => ?_
  show (if p.1 = n then (p.1, v) else p).1 = p.1
  split <;> rfl
theorem putW_nodup {ws : List (Str × Int)} (n : Str) (v : Int) (h : (ws.map (·.1)).Nodup) : ((putW ws n v).map (·.1)).Nodup := by
  by_cases e : (ws.any fun kv => decide (kv.1 = n)) = true
  · rw [putW_keys e]
    exact h
  · unfold putW
    rw [if_neg e, List.map_append]
    refine List.nodup_append.mpr ⟨h, List.nodup_cons.mpr ⟨(fun z => by cases z), List.nodup_nil⟩, fun x hx y hy z => ?_⟩
    rw [List.mem_singleton.mp hy] at z
    obtain ⟨p, hp, ep⟩ := List.mem_map.mp hx
    exact e (List.any_eq_true.mpr ⟨p, hp, decide_eq_true (ep.trans z)⟩)
/-- names whose numbers are known -/
theorem has_put {N : Str → Prop} {ws : List (Str × Int)} {n : Str} {v : Int} (h : Has N ws) : Has (fun m => m = n ∨ N m) (putW ws n v) := by
  intro m hm
  rw [look_put]
  by_cases e : m = n
  · exact ⟨v, if_pos e⟩
  · rw [if_neg e]
    exact h m (hm.resolve_left e)
theorem Has.mono {N M : Str → Prop} {ws : List (Str × Int)} (h : Has N ws) (k : ∀ n, M n → N n) : Has M ws := fun n hn => h n (k n hn)
theorem has_keep {N : Str → Prop} {ws : List (Str × Int)} {n : Str} {v : Int} (h : Has N ws) : Has N (putW ws n v) := (has_put h).mono fun _ h => .inr h
def DPutB (D : Ends) (σ : L2.St) (v x y : V) (H3 : Hp) : Prop := ∃ a H4, x = .ref a ∧ DPut H3 a y v H4 ∧ D.nx σ H4
theorem w_dput {D : Ends} {σ : L2.St} {H : Hp} {td ty tv : TE} (h : tv σ H fun v H1 => td σ H1 fun x H2 => ty σ H2 fun y H3 => DPutB D σ v x y H3) : sDPut td ty tv D σ H := h
theorem w_DPutB {D : Ends} {σ : L2.St} {H : Hp} {a : Addr} {ws : List (Str × Int)} {n : Str} {v : Int} (h : H a = some (.dK (wkv ws))) (hl : ws.length ≤ 1000) (q : D.nx σ (upd H a (.dK (wkv (putW ws n v))))) : DPutB D σ (.int v) (.ref a) (.str n) H :=
  ⟨a, _, rfl, .k (k := Sum.inr n) h (by rw [wkv, List.length_map]; exact Nat.lt_of_le_of_lt hl (by rw [sizeLine_eq]; decide)), by rw [put_wkv]; exact q⟩
def rInsert : V → List V → Hp → VK → Prop := fun x vs H Q => ∃ (l : Addr) (xs : List V) (i : Int) (y : V), x = .ref l ∧ vs = [.int i, y] ∧ H l = some (.lst xs) ∧ xs.length < sizeLine ∧ 0 ≤ i ∧ i < 2 ^ 63 ∧ Q .non (upd H l (.lst (xs.take i.toNat ++ [y] ++ xs.drop i.toNat)))
theorem mt_ins0 {X : Cx} : MtR X "list.insert" rInsert := mt_insert
theorem w_insert {H : Hp} {Q : VK} {p : Addr} {xs : List V} {y : V} {i : Int} (e : H p = some (.lst xs)) (hz : xs.length ≤ 1000000) (hi : 0 ≤ i ∧ i ≤ 1000000) (q : Q .non (upd H p (.lst (xs.take i.toNat ++ [y] ++ xs.drop i.toNat)))) : rInsert (.ref p) [.int i, y] H Q :=
  ⟨p, xs, i, y, rfl, rfl, e, Nat.lt_of_le_of_lt hz (by rw [sizeLine_eq]; decide), hi.1, by omega, q⟩
theorem w_dnewK {σ : L2.St} {H : Hp} {Q : VK} (h : ∀ p H', H p = none → Same H H' → H' p = some (.dK (wkv [])) → Q (.ref p) H') : tDNewK σ H Q := fun p hp => h p _ hp (same_upd hp) upd_same
end Dpr

namespace Dpr
open PySem PySem.Spec PyProof.Rows L2
def RevB (R : It → Hp → Prop) (a b : Int) (H1 : Hp) : Prop := -(2 ^ 62) ≤ a ∧ a < 2 ^ 62 ∧ -(2 ^ 62) ≤ b ∧ b < 2 ^ 62 ∧ R (Itc (a + (((b - a).toNat : Nat) : Int) - 1) (-1) (b - a).toNat) H1
def RG1 (R : Int → Int → Hp → Prop) (x : V) (H1 : Hp) : Prop := ∃ i, x = .int i ∧ R 0 i H1
theorem w_revR {σ : L2.St} {H : Hp} {R : It → Hp → Prop} {tr : L2.St → Hp → (Int → Int → Hp → Prop) → Prop} (h : tr σ H (RevB R)) : iRevR tr σ H R := h
theorem w_rg1 {σ : L2.St} {H : Hp} {R : Int → Int → Hp → Prop} {ta : TE} (h : ta σ H (RG1 R)) : tRg1 ta σ H R := h
theorem w_RG1 {R : Int → Int → Hp → Prop} {b : Int} {H : Hp} (q : R 0 b H) : RG1 R (.int b) H := ⟨b, rfl, q⟩
theorem w_RevB {R : It → Hp → Prop} {a b : Int} {H : Hp} (h : -1000000 ≤ a ∧ a ≤ 1000000 ∧ -1000000 ≤ b ∧ b ≤ 1000000) (q : R (Itc (a + (((b - a).toNat : Nat) : Int) - 1) (-1) (b - a).toNat) H) : RevB R a b H := ⟨by omega, by omega, by omega, by omega, q⟩
theorem for_rc {lo c : Int} {n j : Nat} {t : TS} {D : Ends} {σ : L2.St} {H : Hp} (Pv : Nat → L2.St → Hp → Prop) (h0 : Pv 0 σ H)
    (hs : ∀ (i : Nat) σ' H', i < n → Pv i σ' H' → t { D with nx := Pv (i + 1), ct := Pv (i + 1), bk := D.nx } (σ'.set j (some (.int (lo + (i : Nat) * c)))) H') (hd : ∀ σ' H', Pv n σ' H' → D.nx σ' H') : ForB (Itc lo c n) (gName j) t D σ H :=
  for_rangeC Pv h0 hs hd
end Dpr

namespace Dpr
open PySem PySem.Spec PyProof.Rows L2
/-! a row from its second part on, the greatest of a list -/
theorem w_slT1 {K : PySem.W.Frag} {H : Hp} {Q : VK} {p : Addr} {x : V} {r : List V} (h : SqT K H p (x :: r)) (q : ∀ l H', H l = none → Same H H' → H' l = some (.tup r) → Q (.ref l) H') : rSlT K (.ref p) (some 1) none H Q := by
  refine ⟨p, _, rfl, h, fun z => ?_, fun l hl => ?_⟩
  · have e := z.1
    rw [show (1 : Int) = ((1 : Nat) : Int) from rfl, HT.sIx_nat, List.length_cons] at e
    omega
  · have e : cutV (x :: r) (some 1) none = r := cut_from (x :: r) 1 (by rw [List.length_cons]; omega)
    rw [e]
    exact q l _ hl (same_upd hl) upd_same
theorem w_maxL {K : PySem.W.Frag} {H : Hp} {Q : VK} {p : Addr} {ns : List Int} (h : SqL K H p (ns.map V.int)) (hn : 0 < ns.length) (q : ∀ m, m ∈ ns → (∀ y ∈ ns, y ≤ m) → Q (.int m) H) : rMax K [.ref p] H Q := ⟨p, ns, rfl, h, hn, q⟩
theorem c_maxK {X : Cx} (K : PySem.W.Frag) (e : X.K = K := by rfl) (hc : X.calm = true := by rfl) : CallR X (.builtin "max") (rMax K) := by subst e; exact cr_max hc
/-! lists told row by row -/
def runL (f : List Int → Row → Int) (rs : List Row) : List Int := rs.foldl (fun a r => a ++ [f a r]) []
theorem runL_snoc (f : List Int → Row → Int) (rs : List Row) (r : Row) : runL f (rs ++ [r]) = runL f rs ++ [f (runL f rs) r] := by
  unfold runL
  rw [List.foldl_append]
  rfl
theorem runL_len (f : List Int → Row → Int) (rs : List Row) : (runL f rs).length = rs.length := by
  have key : ∀ (rs : List Row) (acc : List Int), (rs.foldl (fun a r => a ++ [f a r]) acc).length = acc.length + rs.length := by
    intro rs
    induction rs with
    | nil => intro acc; rfl
    | cons r rs ih =>
      intro acc
      rw [List.foldl_cons, ih, List.length_append, List.length_singleton, List.length_cons]
      omega
  unfold runL
  rw [key]
  exact Nat.zero_add _
theorem runL_take (f : List Int → Row → Int) (rs : List Row) (i : Nat) : runL f (rs.take i) = (runL f rs).take i := by
  rcases Nat.le_total rs.length i with h | h
  · rw [List.take_of_length_le h, List.take_of_length_le (by rw [runL_len]; exact h)]
  · have key : ∀ (ss acc : List Int) (rs : List Row), ∃ t, rs.foldl (fun a r => a ++ [f a r]) acc = acc ++ t := by
      intro ss acc rs
      induction rs generalizing acc with
      | nil => exact ⟨[], (List.append_nil _).symm⟩
      | cons r rs ih =>
        obtain ⟨t, e⟩ := ih (acc ++ [f acc r])
        exact ⟨[f acc r] ++ t, by rw [List.foldl_cons, e, List.append_assoc]⟩
    obtain ⟨t, e⟩ := key [] (runL f (rs.take i)) (rs.drop i)
    have e2 : runL f rs = runL f (rs.take i) ++ t := by
      rw [← e]
      show rs.foldl _ [] = (rs.drop i).foldl _ ((rs.take i).foldl _ [])
      rw [← List.foldl_append, List.take_append_drop]
    rw [e2, List.take_left' (by rw [runL_len, List.length_take]; omega)]
theorem runL_get (f : List Int → Row → Int) {rs : List Row} {i : Nat} {r : Row} (h : rs[i]? = some r) : (runL f rs)[i]? = some (f ((runL f rs).take i) r) := by
  have hi := (List.getElem?_eq_some_iff.mp h).1
  have e : (runL f rs).take (i + 1) = (runL f rs).take i ++ [f ((runL f rs).take i) r] := by
    rw [← runL_take, take_snoc h, runL_snoc, runL_take]
  have hl : ((runL f rs).take i).length = i := by rw [List.length_take, runL_len]; omega
  have e2 : ((runL f rs).take (i + 1))[i]? = some (f ((runL f rs).take i) r) := by
    rw [e, List.getElem?_append_right (by omega), hl, Nat.sub_self]
    rfl
  rw [List.getElem?_take, if_pos (Nat.lt_succ_self i)] at e2
  exact e2
/-! depths -/
def ownR : Row → List Nat
  | .inv a => [a]
  | .bin _ a b => [a, b]
  | _ => []
def natI (ws : List Nat) : List Int := ws.map fun (z : Nat) => (z : Int)
theorem natI_len (ws : List Nat) : (natI ws).length = ws.length := List.length_map ..
theorem natI_get {ws : List Nat} {i : Nat} {x : Int} (h : (natI ws)[i]? = some x) : ∃ z : Nat, ws[i]? = some z ∧ x = (z : Int) := by
  unfold natI at h
  rw [List.getElem?_map] at h
  cases e : ws[i]? with
  | none => rw [e] at h; cases h
  | some y => rw [e] at h; exact ⟨y, rfl, (Option.some.inj h).symm⟩
def top2 (x y : Int) : Int := if y > x then y else x
def deepI (ds : List Int) (r : Row) : Int := (ownR r).foldl (fun d w => top2 d (ds.getD w 0 + 1)) 0
def depthL (rs : List Row) : List Int := runL deepI rs
theorem own_lt {N : Str → Prop} {i : Nat} {r : Row} (h : RowOk N i r) : ∀ w ∈ ownR r, w < i := by
  intro w hw
  cases r with
  | inv a => rw [List.mem_singleton.mp hw]; exact h
  | bin o a b =>
    rcases List.mem_cons.mp hw with e | e
    · rw [e]; exact h.1
    · rw [List.mem_singleton.mp e]; exact h.2
  | _ => cases hw
theorem own_len (r : Row) : (ownR r).length ≤ 2 := by
  cases r <;> exact Nat.le_of_ble_eq_true rfl
theorem top_of (g : Nat → Int) : ∀ (ws : List Nat) (x m : Int), m ∈ x :: ws.map g → (∀ y ∈ x :: ws.map g, y ≤ m) → m = ws.foldl (fun d w => top2 d (g w)) x
  | [], x, m, h, _ => List.mem_singleton.mp h
  | w :: r, x, m, h, hm => by
    show m = r.foldl (fun d w => top2 d (g w)) (top2 x (g w))
    have a1 := hm x (List.mem_cons_self ..)
    have a2 := hm (g w) (List.mem_cons_of_mem _ (List.mem_cons_self ..))
    refine top_of g r _ m ?_ fun y hy => ?_
    · unfold top2
      rcases List.mem_cons.mp h with e | e
      · subst e
        rw [if_neg (by omega)]
        exact List.mem_cons_self ..
      · rcases List.mem_cons.mp e with e | e
        · by_cases c : g w > x
          · rw [if_pos c, e]
            exact List.mem_cons_self ..
          · rw [if_neg c, show m = x by omega]
            exact List.mem_cons_self ..
        · exact List.mem_cons_of_mem _ e
    · rcases List.mem_cons.mp hy with e | e
      · rw [e]
        unfold top2
        split
        · exact a2
        · exact a1
      · exact hm y (List.mem_cons_of_mem _ (List.mem_cons_of_mem _ e))
end Dpr

namespace Dpr
open PySem PySem.Spec PyProof.Rows L2
theorem ib_abs (x : Int) (n : Nat) : Builtin.Int.intBits x ≤ n ↔ x.natAbs < 2 ^ n := by
  have e : Builtin.Int.intBits x = Builtin.Int.intBits (x.natAbs : Int) := by
    unfold Builtin.Int.intBits
    by_cases h : x = 0
    · subst h; rfl
    · rw [if_neg (by simpa using h), if_neg (by simpa using h)]
      rfl
  rw [e, ib_le (by omega) n]
  rw [show ((2 : Int) ^ n) = ((2 ^ n : Nat) : Int) by rw [Int.natCast_pow]; rfl]
  exact Int.ofNat_lt
theorem bits_add {c j : Int} {n : Nat} (h : Builtin.Int.intBits c ≤ n) (hj : Builtin.Int.intBits j ≤ n) : Builtin.Int.intBits (c + j) ≤ n + 1 := by
  rw [ib_abs] at *
  rw [Nat.pow_succ]
  omega
/-! beats -/
def beatI (ws : List (Str × Int)) (prev bits : List Int) (r : Row) : Int := match r with
  | .lat a => prev.getD a 0
  | r => gateI ws bits r
def beatL (rs : List Row) (prev : List Int) (ws : List (Str × Int)) : List Int := runL (beatI ws prev) rs
def beatsL (rs : List Row) (wss : List (List (Str × Int))) : List (List Int) := wss.foldl (fun acc ws => acc ++ [beatL rs (acc.getLastD []) ws]) []
theorem beatsL_snoc (rs : List Row) (wss : List (List (Str × Int))) (ws : List (Str × Int)) : beatsL rs (wss ++ [ws]) = beatsL rs wss ++ [beatL rs ((beatsL rs wss).getLastD []) ws] := by
  unfold beatsL
  rw [List.foldl_append]
  rfl
theorem beat_01 {N : Str → Prop} {n : Nat} {r : Row} (ws : List (Str × Int)) {prev bs : List Int} (hp : All01 prev) (h : All01 bs) (ok : RowOk N n r) : is01 (beatI ws prev bs r) := by
  cases r with
  | lat a => exact all01_get hp a
  | fix b => exact gateI_01 (r := .fix b) ws h ok
  | inn m k => exact gateI_01 (r := .inn m k) ws h ok
  | inv a => exact gateI_01 (r := .inv a) ws h ok
  | bin o a b => exact gateI_01 (r := .bin o a b) ws h ok
theorem beatL_01 {N : Str → Prop} (ws : List (Str × Int)) {prev : List Int} (hp : All01 prev) {rs : List Row} (ok : RowsOk N rs) : ∀ i, All01 (runL (beatI ws prev) (rs.take i))
  | 0 => fun x hx => by cases hx
  | i + 1 => by
    have ih := beatL_01 ws hp ok i
    cases e : rs[i]? with
    | none =>
      have : rs.take (i + 1) = rs.take i := by rw [List.take_add_one, e]; exact List.append_nil _
      rw [this]
      exact ih
    | some r =>
      rw [take_snoc e, runL_snoc]
      intro x hx
      rcases List.mem_append.mp hx with q | q
      · exact ih x q
      · rw [List.mem_singleton.mp q]
        exact beat_01 ws hp ih (ok i r e)
theorem A2.mono2 {α β : Type} {R S : α → β → Prop} {xs : List α} {ys : List β} (h : A2 R xs ys) (k : ∀ x y, x ∈ xs → R x y → S x y) : A2 S xs ys := ⟨h.1, fun i x y a b => k x y (List.mem_of_getElem? a) (h.2 i x y a b)⟩
def DictAt (H : Hp) (p : Addr) (ws : List (Str × Int)) : Prop := H p = some (.dK (wkv ws))
def IntsAt (H : Hp) (p : Addr) (bs : List Int) : Prop := H p = some (.lst (bs.map V.int))
def DictsL (K : PySem.W.Frag) (H : Hp) (a : Addr) (wss : List (List (Str × Int))) : Prop := ∃ ps : List Addr, SqL K H a (ps.map V.ref) ∧ A2 (DictAt H) ps wss
/-- what stood at the beat before: nothing, or a list -/
def Before (H : Hp) (n : Nat) (prev : List Int) (bv : V) : Prop := (bv = .non ∧ prev = []) ∨ ∃ q, bv = .ref q ∧ IntsAt H q prev ∧ prev.length = n
theorem Before.same {H H' : Hp} {n : Nat} {prev : List Int} {bv : V} (s : Same H H') (h : Before H n prev bv) : Before H' n prev bv := by
  rcases h with h | ⟨q, h1, h2, h3⟩
  · exact .inl h
  · exact .inr ⟨q, h1, s _ _ h2, h3⟩
def rIsNo : R2 := fun x y H Q => y = .non ∧ Q (.bl (decide (x = .non))) H
def rNotNo : R2 := fun x y H Q => y = .non ∧ Q (.bl (!decide (x = .non))) H
theorem op_isNo {X : Cx} : OpR X (compareOp .Is) rIsNo := op_isN
theorem op_notNo {X : Cx} : OpR X (compareOp .IsNot) rNotNo := op_notN
theorem w_isNo1 {H : Hp} {Q : VK} (h : Q (.bl true) H) : rIsNo .non .non H Q := ⟨rfl, h⟩
theorem w_isNo0 {p : Addr} {H : Hp} {Q : VK} (h : Q (.bl false) H) : rIsNo (.ref p) .non H Q := ⟨rfl, by rw [decide_eq_false (fun z => by cases z)]; exact h⟩
theorem w_notNo1 {H : Hp} {Q : VK} (h : Q (.bl false) H) : rNotNo .non .non H Q := ⟨rfl, h⟩
theorem w_notNo0 {p : Addr} {H : Hp} {Q : VK} (h : Q (.bl true) H) : rNotNo (.ref p) .non H Q := ⟨rfl, by rw [decide_eq_false (fun z => by cases z)]; exact h⟩
end Dpr

namespace Dpr
open PySem PySem.Spec PyProof.Rows L2
def topS (i : Nat) : Stmt := PySem.Challenge.pw_dotpress_k09_beats.main.body.getD i (.Pass ⟨0, 0, 0, 0⟩)
abbrev s_gate_bit : Stmt := topS 1
theorem sc_gate_bit : FnScope ["row", "bits", "words", "word"] ["row", "bits", "words"] (defScope s_gate_bit) := ⟨rfl, rfl, rfl, by decide +kernel, rfl, by decide +kernel, by decide +kernel⟩
abbrev s_beat_bit : Stmt := topS 2
theorem sc_beat_bit : FnScope ["row", "bits", "words", "before"] ["row", "bits", "words", "before"] (defScope s_beat_bit) := ⟨rfl, rfl, rfl, by decide +kernel, rfl, by decide +kernel, by decide +kernel⟩
abbrev s_beats : Stmt := topS 3
theorem sc_beats : FnScope ["rows", "some", "found", "before", "words", "bits", "row"] ["rows", "some"] (defScope s_beats) := ⟨rfl, rfl, rfl, by decide +kernel, rfl, by decide +kernel, by decide +kernel⟩
abbrev s_law_whole : Stmt := topS 5
theorem sc_law_whole : FnScope ["_law_found"] ["_law_found"] (defScope s_law_whole) := ⟨rfl, rfl, rfl, by decide +kernel, rfl, by decide +kernel, by decide +kernel⟩
abbrev s_law_at : Stmt := topS 6
theorem sc_law_at : FnScope ["_law_script", "_law_k"] ["_law_script", "_law_k"] (defScope s_law_at) := ⟨rfl, rfl, rfl, by decide +kernel, rfl, by decide +kernel, by decide +kernel⟩
abbrev s_law_mixed : Stmt := topS 7
theorem sc_law_mixed : FnScope ["_law_cell", "_law_k", "_law_number"] ["_law_cell", "_law_k"] (defScope s_law_mixed) := ⟨rfl, rfl, rfl, by decide +kernel, rfl, by decide +kernel, by decide +kernel⟩
abbrev s_law_numbers : Stmt := topS 8
theorem sc_law_numbers : FnScope ["_law_script", "_law_start", "_law_some_here", "_law_k"] ["_law_script", "_law_start"] (defScope s_law_numbers) := ⟨rfl, rfl, rfl, by decide +kernel, rfl, by decide +kernel, by decide +kernel⟩
abbrev s_law_names : Stmt := topS 9
theorem sc_law_names : FnScope ["_law_number", "_law_letters", "_law_some_here", "_law_at_here", "_law_names_here", "_law_j", "_law_spots", "_law_word", "_law_k", "_law_spot"] ["_law_number"] (defScope s_law_names) := ⟨rfl, rfl, rfl, by decide +kernel, rfl, by decide +kernel, by decide +kernel⟩
abbrev s_law_great : Stmt := topS 10
theorem sc_law_great : FnScope ["_law_cell", "_law_k", "_law_number"] ["_law_cell", "_law_k"] (defScope s_law_great) := ⟨rfl, rfl, rfl, by decide +kernel, rfl, by decide +kernel, by decide +kernel⟩
abbrev s_law_ins : Stmt := topS 11
theorem sc_law_ins : FnScope ["_law_names_here", "_law_number", "_law_many", "_law_found", "_law_k"] ["_law_names_here", "_law_number", "_law_many"] (defScope s_law_ins) := ⟨rfl, rfl, rfl, by decide +kernel, rfl, by decide +kernel, by decide +kernel⟩
abbrev s_law_rows : Stmt := topS 12
theorem sc_law_rows : FnScope ["_law_numbers_here", "_law_ins_here", "_law_near", "_law_late", "_law_rows_here", "_law_number", "_law_at_here", "_law_mixed_here", "_law_reach"] ["_law_numbers_here", "_law_ins_here", "_law_near", "_law_late"] (defScope s_law_rows) := ⟨rfl, rfl, rfl, by decide +kernel, rfl, by decide +kernel, by decide +kernel⟩
abbrev s_law_turned : Stmt := topS 13
theorem sc_law_turned : FnScope ["_law_row"] ["_law_row"] (defScope s_law_turned) := ⟨rfl, rfl, rfl, by decide +kernel, rfl, by decide +kernel, by decide +kernel⟩
abbrev s_law_gate : Stmt := topS 14
theorem sc_law_gate : FnScope ["_law_number", "_law_one", "_law_two"] ["_law_number", "_law_one", "_law_two"] (defScope s_law_gate) := ⟨rfl, rfl, rfl, by decide +kernel, rfl, by decide +kernel, by decide +kernel⟩
abbrev s_law_bit : Stmt := topS 15
theorem sc_law_bit : FnScope ["_law_row", "_law_bits_here", "_law_words", "_law_total"] ["_law_row", "_law_bits_here", "_law_words"] (defScope s_law_bit) := ⟨rfl, rfl, rfl, by decide +kernel, rfl, by decide +kernel, by decide +kernel⟩
abbrev s_law_list : Stmt := topS 17
theorem sc_law_list : FnScope ["_law_found", "_law_due", "_law_k"] ["_law_found", "_law_due"] (defScope s_law_list) := ⟨rfl, rfl, rfl, by decide +kernel, rfl, by decide +kernel, by decide +kernel⟩
abbrev s_law_some : Stmt := topS 18
theorem sc_law_some : FnScope ["_law_names_here", "_law_cell", "_law_many", "_law_some_here", "_law_t", "_law_j"] ["_law_names_here", "_law_cell", "_law_many"] (defScope s_law_some) := ⟨rfl, rfl, rfl, by decide +kernel, rfl, by decide +kernel, by decide +kernel⟩
abbrev s_law_beats : Stmt := topS 19
theorem sc_law_beats : FnScope ["_law_rows_here", "_law_some_here", "_law_found", "_law_t", "_law_bits_here", "_law_row"] ["_law_rows_here", "_law_some_here"] (defScope s_law_beats) := ⟨rfl, rfl, rfl, by decide +kernel, rfl, by decide +kernel, by decide +kernel⟩
abbrev s_law_same : Stmt := topS 20
theorem sc_law_same : FnScope ["_law_found", "_law_due", "_law_t"] ["_law_found", "_law_due"] (defScope s_law_same) := ⟨rfl, rfl, rfl, by decide +kernel, rfl, by decide +kernel, by decide +kernel⟩
abbrev s_law : Stmt := topS 21
theorem sc_law : FnScope ["_law_script", "_law_names_here", "_law_ins_here", "_law_rows_here", "_law_many", "_law_some_here", "_law_handed", "_law_given", "_law_kept", "_law_due", "_law_found", "_law_bits_here", "_law_words"] ["_law_script"] (defScope s_law) := ⟨rfl, rfl, rfl, by decide +kernel, rfl, by decide +kernel, by decide +kernel⟩

structure Top (K : PySem.W.Frag) (mg : Str → Option Value) where
  a_gate_bit : Addr
  d_gate_bit : FuncData
  f_gate_bit : Fun K "gate_bit" "gate_bit" s_gate_bit a_gate_bit d_gate_bit
  b_gate_bit : Binds K d_gate_bit ["row", "bits", "words"] []
  g_gate_bit : mg "gate_bit" = some (.ref a_gate_bit)
  a_beat_bit : Addr
  d_beat_bit : FuncData
  f_beat_bit : Fun K "beat_bit" "beat_bit" s_beat_bit a_beat_bit d_beat_bit
  b_beat_bit : Binds K d_beat_bit ["row", "bits", "words", "before"] []
  g_beat_bit : mg "beat_bit" = some (.ref a_beat_bit)
  a_beats : Addr
  d_beats : FuncData
  f_beats : Fun K "beats" "beats" s_beats a_beats d_beats
  b_beats : Binds K d_beats ["rows", "some"] []
  g_beats : mg "beats" = some (.ref a_beats)
  a_law_whole : Addr
  d_law_whole : FuncData
  f_law_whole : Fun K "_law_whole" "_law_whole" s_law_whole a_law_whole d_law_whole
  b_law_whole : Binds K d_law_whole ["_law_found"] []
  g_law_whole : mg "_law_whole" = some (.ref a_law_whole)
  a_law_at : Addr
  d_law_at : FuncData
  f_law_at : Fun K "_law_at" "_law_at" s_law_at a_law_at d_law_at
  b_law_at : Binds K d_law_at ["_law_script", "_law_k"] []
  g_law_at : mg "_law_at" = some (.ref a_law_at)
  a_law_mixed : Addr
  d_law_mixed : FuncData
  f_law_mixed : Fun K "_law_mixed" "_law_mixed" s_law_mixed a_law_mixed d_law_mixed
  b_law_mixed : Binds K d_law_mixed ["_law_cell", "_law_k"] []
  g_law_mixed : mg "_law_mixed" = some (.ref a_law_mixed)
  a_law_numbers : Addr
  d_law_numbers : FuncData
  f_law_numbers : Fun K "_law_numbers" "_law_numbers" s_law_numbers a_law_numbers d_law_numbers
  b_law_numbers : Binds K d_law_numbers ["_law_script", "_law_start"] []
  g_law_numbers : mg "_law_numbers" = some (.ref a_law_numbers)
  a_law_names : Addr
  d_law_names : FuncData
  f_law_names : Fun K "_law_names" "_law_names" s_law_names a_law_names d_law_names
  b_law_names : Binds K d_law_names ["_law_number"] []
  g_law_names : mg "_law_names" = some (.ref a_law_names)
  a_law_great : Addr
  d_law_great : FuncData
  f_law_great : Fun K "_law_great" "_law_great" s_law_great a_law_great d_law_great
  b_law_great : Binds K d_law_great ["_law_cell", "_law_k"] []
  g_law_great : mg "_law_great" = some (.ref a_law_great)
  a_law_ins : Addr
  d_law_ins : FuncData
  f_law_ins : Fun K "_law_ins" "_law_ins" s_law_ins a_law_ins d_law_ins
  b_law_ins : Binds K d_law_ins ["_law_names_here", "_law_number", "_law_many"] []
  g_law_ins : mg "_law_ins" = some (.ref a_law_ins)
  a_law_rows : Addr
  d_law_rows : FuncData
  f_law_rows : Fun K "_law_rows" "_law_rows" s_law_rows a_law_rows d_law_rows
  b_law_rows : Binds K d_law_rows ["_law_numbers_here", "_law_ins_here", "_law_near", "_law_late"] []
  g_law_rows : mg "_law_rows" = some (.ref a_law_rows)
  a_law_turned : Addr
  d_law_turned : FuncData
  f_law_turned : Fun K "_law_turned" "_law_turned" s_law_turned a_law_turned d_law_turned
  b_law_turned : Binds K d_law_turned ["_law_row"] []
  g_law_turned : mg "_law_turned" = some (.ref a_law_turned)
  a_law_gate : Addr
  d_law_gate : FuncData
  f_law_gate : Fun K "_law_gate" "_law_gate" s_law_gate a_law_gate d_law_gate
  b_law_gate : Binds K d_law_gate ["_law_number", "_law_one", "_law_two"] []
  g_law_gate : mg "_law_gate" = some (.ref a_law_gate)
  a_law_bit : Addr
  d_law_bit : FuncData
  f_law_bit : Fun K "_law_bit" "_law_bit" s_law_bit a_law_bit d_law_bit
  b_law_bit : Binds K d_law_bit ["_law_row", "_law_bits_here", "_law_words"] []
  g_law_bit : mg "_law_bit" = some (.ref a_law_bit)
  a_law_list : Addr
  d_law_list : FuncData
  f_law_list : Fun K "_law_list" "_law_list" s_law_list a_law_list d_law_list
  b_law_list : Binds K d_law_list ["_law_found", "_law_due"] []
  g_law_list : mg "_law_list" = some (.ref a_law_list)
  a_law_some : Addr
  d_law_some : FuncData
  f_law_some : Fun K "_law_some" "_law_some" s_law_some a_law_some d_law_some
  b_law_some : Binds K d_law_some ["_law_names_here", "_law_cell", "_law_many"] []
  g_law_some : mg "_law_some" = some (.ref a_law_some)
  a_law_beats : Addr
  d_law_beats : FuncData
  f_law_beats : Fun K "_law_beats" "_law_beats" s_law_beats a_law_beats d_law_beats
  b_law_beats : Binds K d_law_beats ["_law_rows_here", "_law_some_here"] []
  g_law_beats : mg "_law_beats" = some (.ref a_law_beats)
  a_law_same : Addr
  d_law_same : FuncData
  f_law_same : Fun K "_law_same" "_law_same" s_law_same a_law_same d_law_same
  b_law_same : Binds K d_law_same ["_law_found", "_law_due"] []
  g_law_same : mg "_law_same" = some (.ref a_law_same)
  a_law : Addr
  d_law : FuncData
  f_law : Fun K "law" "law" s_law a_law d_law
  b_law : Binds K d_law ["_law_script"] []
  g_law : mg "law" = some (.ref a_law)
  z_bool : mg "bool" = none
  z_dict : mg "dict" = none
  z_int : mg "int" = none
  z_isinstance : mg "isinstance" = none
  z_len : mg "len" = none
  z_list : mg "list" = none
  z_min : mg "min" = none
  z_range : mg "range" = none

section
variable {P : Program} {w : World} {K : PySem.W.Frag} {mg : Str → Option Value} {base : Heap}


/-! the walk: one step a construct -/
open PySem PySem.Spec PyProof.Rows L2 Dpr
local macro_rules | `(tactic| walk_at "hp") => `(tactic| first
  | assumption
  | exact upd_same
  | (apply hp_upd; assumption; walk_at "hp")
  | (apply hp_upd2; assumption; walk_at "hp")
  | (apply same_at; assumption; walk_at "hp"))
local macro_rules | `(tactic| walk_at "sq") => `(tactic| first
  | assumption
  | exact SqL.of (by assumption)
  | exact SqL.of upd_same
  | exact SqT.of (by assumption)
  | (apply SqL.of; walk_at "hp")
  | (apply SqT.of; walk_at "hp")
  | (apply Same.seq; assumption; walk_at "sq")
  | (apply same_tup; assumption; walk_at "sq"))
local macro_rules | `(tactic| walk_at "sz") => `(tactic| first
  | omega
  | (simp only [List.length_map, List.length_append, List.length_cons, List.length_nil, List.length_range, List.length_replicate, List.length_take]; omega))
local macro_rules | `(tactic| walk_at "w1") => `(tactic| first
  | with_reducible refine w_seq ?_
  | with_reducible refine w_asg ?_
  | ((with_reducible apply w_var); rfl)
  | with_reducible refine w_c ?_
  | with_reducible refine w_op ?_
  | with_reducible refine w_un ?_
  | with_reducible refine w_I0 ?_
  | with_reducible refine w_U ?_
  | with_reducible refine w_bl ?_
  | with_reducible refine w_test ?_
  | with_reducible refine w_tB ?_
  | ((with_reducible refine w_eq ?_ ?_); rfl)
  | ((with_reducible refine w_ne ?_ ?_); rfl)
  | with_reducible refine w_if ?_
  | with_reducible refine w_cons ?_
  | with_reducible refine w_nil ?_
  | with_reducible refine w_itT ?_
  | with_reducible refine w_itF ?_
  | ((with_reducible refine w_itS1 ?_ ?_); decide +kernel)
  | ((with_reducible refine w_itS0 ?_ ?_); decide +kernel)
  | ((with_reducible refine w_itN1 ?_ ?_); decide +kernel)
  | ((with_reducible refine w_itN0 ?_ ?_); decide +kernel)
  | with_reducible refine w_dget ?_
  | ((with_reducible apply w_DG1); (walk_at "hp"); assumption)
  | ((with_reducible refine w_itC ?_ ?_); (first | decide +kernel | (simp only [List.length_cons, List.length_nil]; decide +kernel)))
  | ((with_reducible refine w_itD ?_ ?_); (first | decide +kernel | (simp only [List.length_cons, List.length_nil]; decide +kernel)))
  | with_reducible refine w_asgG ?_
  | with_reducible refine w_drop ?_
  | with_reducible refine w_ret ?_
  | with_reducible refine w_retN ?_
  | with_reducible refine w_next ?_
  | with_reducible refine w_cont ?_
  | with_reducible refine w_brk ?_
  | ((with_reducible apply w_aug); rfl)
  | with_reducible refine w_ipI ?_
  | with_reducible refine w_chain ?_
  | with_reducible refine w_and ?_
  | with_reducible refine w_or ?_
  | with_reducible refine w_not ?_
  | with_reducible refine w_andV ?_
  | with_reducible refine w_orV ?_
  | with_reducible refine w_notV ?_
  | with_reducible refine w_ifx ?_
  | with_reducible refine w_call ?_
  | with_reducible refine w_cb ?_
  | ((with_reducible refine w_for ?_); (try simp only [List.set_cons_zero, List.set_cons_succ]))
  | ((with_reducible refine w_lc ?_); (try simp only [List.set_cons_zero, List.set_cons_succ]))
  | with_reducible refine w_bm ?_
  | with_reducible refine w_bm0 ?_
  | ((with_reducible apply w_BML); (walk_at "hp"))
  | ((with_reducible apply w_BM0L); (walk_at "hp"))
  | ((with_reducible apply w_append); (walk_at "hp"); (try (walk_at "sz")))
  | ((with_reducible apply w_gTup); (walk_at "sq"); rfl)
  | with_reducible refine w_gCons ?_
  | with_reducible refine w_gNil ?_
  | with_reducible refine w_gName ?_
  | with_reducible refine w_iE ?_
  | ((with_reducible apply w_IE1); (walk_at "sq"))
  | with_reducible refine w_intB ?_
  | with_reducible refine w_tm1 ?_
  | with_reducible refine w_M11 ?_
  | ((with_reducible apply w_inL); (walk_at "sq"); rfl; rfl)
  | ((with_reducible apply w_inT); (walk_at "sq"); rfl; rfl)
  | ((with_reducible apply w_niL); (walk_at "sq"); rfl; rfl)
  | ((with_reducible apply w_niT); (walk_at "sq"); rfl; rfl)
  | with_reducible refine w_bit1 ?_
  | with_reducible refine w_shrN ?_
  | ((with_reducible refine w_shlN ?_ ?_); omega)
  | ((with_reducible refine w_divP ?_ ?_); omega)
  | with_reducible refine w_iL ?_
  | with_reducible refine w_iT ?_
  | with_reducible refine w_iR1 ?_
  | with_reducible refine w_iR2 ?_
  | ((with_reducible apply w_IL1); (walk_at "sq"))
  | ((with_reducible apply w_IT1); (walk_at "sq"))
  | ((with_reducible refine w_IR1 ?_ ?_); (walk_at "sz"))
  | ((with_reducible refine w_IR2 ?_ ?_); (walk_at "sz"))
  | ((with_reducible apply w_sl); (walk_at "sq"); intro _ _ _ _ _)
  | with_reducible refine w_tsl ?_
  | with_reducible refine w_tnp ?_
  | with_reducible refine w_tpt ?_
  | with_reducible refine w_pt ?_
  | ((with_reducible apply w_cat); (walk_at "hp"); (walk_at "hp"); (try (walk_at "sz")))
  | ((with_reducible apply w_listL); (walk_at "sq"); intro _ _ _ _ _)
  | ((with_reducible apply w_listT); (walk_at "sq"); intro _ _ _ _ _)
  | with_reducible refine w_tbits ?_
  | with_reducible refine w_bits ?_
  | with_reducible refine w_tup ?_
  | with_reducible refine w_lst ?_
  | ((with_reducible refine w_alT ?_ ?_); (exact sz_le rfl); intro _ _ _ _ _)
  | ((with_reducible refine w_alL ?_ ?_); (exact sz_le rfl); intro _ _ _ _ _)
  | with_reducible refine w_abs ?_
  | with_reducible refine w_max2 ?_
  | with_reducible refine w_min2 ?_
  | ((with_reducible refine w_I ?_ ?_); (first | exact ⟨by decide, by decide⟩ | (show (_ : Int) < _; decide) | exact p2pos _ | exact ⟨by omega, by omega, by decide⟩ | exact ⟨by omega, by omega⟩ | (show (_ : Int) < _; omega) | (show (_ : Int) ≤ _; omega) | exact .of_left (by decide) | exact .of_right (by decide) | exact mul_sm (by omega) | exact mul_sm2 (by omega) | exact mul_cc (by assumption) (by assumption) | exact mul_ok2 (n := 250) (by assumption) (by decide) (by decide)))
  | ((with_reducible apply w_ixL); (walk_at "sq"); rfl)
  | ((with_reducible apply w_ixT); (walk_at "sq"); rfl)
  | ((with_reducible apply w_lenL); (walk_at "sq"))
  | ((with_reducible apply w_lenT); (walk_at "sq"))
  | (with_reducible refine w_isi (TyX.base (TyOf.int _)) (kit_ii _) ?_)
  | (with_reducible refine w_isi (TyX.base (TyOf.int _)) (kit_ib _) ?_)
  | (with_reducible refine w_isi (TyX.base (TyOf.bl _)) (kit_bi _) ?_)
  | (with_reducible refine w_isi (TyX.base (TyOf.bl _)) (kit_bb _) ?_)
  | (with_reducible refine w_isi (TyX.base (TyOf.str _)) (kit_ss _) ?_)
  | ((with_reducible apply w_isiT); (walk_at "hp"))
  | ((with_reducible apply w_isiL); (walk_at "hp")))
local macro_rules | `(tactic| walk_at "split") => `(tactic| first
  | ((with_reducible refine w_itS ?_ ?_) <;> intro _)
  | ((with_reducible refine w_itSN ?_ ?_) <;> intro _)
  | ((with_reducible refine w_itI ?_ ?_) <;> intro _)
  | ((with_reducible refine w_itN ?_ ?_) <;> intro _)
  | ((with_reducible refine w_itn ?_ ?_) <;> intro _)
  | ((with_reducible refine w_itd ?_ ?_) <;> intro _)
  | ((with_reducible refine w_itb ?_ ?_) <;> intro _))
local macro_rules | `(tactic| walk_at "wk") => `(tactic| repeat' (walk_at "w1"))
local macro_rules | `(tactic| walk_at "ws") => `(tactic| repeat' (first | (walk_at "w1") | ((walk_at "split") <;> (try (exfalso; omega)))))

local macro_rules | `(tactic| walk_at "w1") => `(tactic| first
  | ((with_reducible refine w_disp ?_); intro _ _ _ _ _)
  | with_reducible refine w_pairs ?_
  | with_reducible refine w_pairs0 ?_
  | ((with_reducible apply w_dictD); (walk_at "hp"); intro _ _ _ _ _))

local macro_rules | `(tactic| walk_at "w1") => `(tactic| first
  | with_reducible refine w_dput ?_
  | ((with_reducible apply w_DPutB); (walk_at "hp"); (walk_at "sz"))
  | ((with_reducible apply w_insert); (walk_at "hp"); (walk_at "sz"); omega)
  | ((with_reducible refine w_dnewK ?_); intro _ _ _ _ _)
  | with_reducible refine w_revR ?_
  | with_reducible refine w_rg1 ?_
  | with_reducible refine w_RG1 ?_
  | ((with_reducible refine w_RevB ?_ ?_); omega))

local macro_rules | `(tactic| walk_at "w1") => `(tactic| first
  | ((with_reducible apply w_slT1); (walk_at "sq"); intro _ _ _ _ _))

local macro_rules | `(tactic| walk_at "w1") => `(tactic| first
  | with_reducible refine w_isNo1 ?_
  | with_reducible refine w_isNo0 ?_
  | with_reducible refine w_notNo1 ?_
  | with_reducible refine w_notNo0 ?_)

def sp_law_whole (K : PySem.W.Frag) : Sp := fun vs H Q _ => ∃ i : Int, vs = [.int i] ∧ Q (.bl true) H
theorem ok_law_whole (T : Top K mg) : FnOk P w K mg base CX0 1 T.a_law_whole T.d_law_whole ["_law_found"] (sp_law_whole K) := by
  refine T.f_law_whole.ok sc_law_whole (fun vs H Q E h => ?_) (fun cdv A outer s H vs Q E hr h => ?_)
  · obtain ⟨i, rfl, _⟩ := h
    rfl
  obtain ⟨i, rfl, h⟩ := h
  refine ⟨_, (pss_one (ps_ret (pe_and (pe_callB (c_isiK K) (by rfl) T.z_isinstance (by decide +kernel) (pa_cons (pv 0) (pa_cons (pe_bltn (v := .ty "int") (by rfl) T.z_int (by decide +kernel) rfl) pa_nil))) (pe_one (pe_not (pe_callB (c_isiK K) (by rfl) T.z_isinstance (by decide +kernel) (pa_cons (pv 0) (pa_cons (pe_bltn (v := .ty "bool") (by rfl) T.z_bool (by decide +kernel) rfl) pa_nil)))))))), ?_⟩
  try dsimp only [cxOf, Cx.nox, Cx.wish]
  simp only [L2.start, List.map_cons, List.map_nil, List.length_cons, List.length_nil, Nat.reduceAdd, Nat.reduceSub, List.replicate_succ, List.replicate_zero, List.cons_append, List.nil_append]
  walk_at "wk"
  exact h
theorem use_whole {i : Int} {H : Hp} {Q : VK} {E : XK} (h : Q (.bl true) H) : sp_law_whole K ([.int i] ++ []) H Q E := ⟨i, rfl, h⟩
local macro_rules | `(tactic| walk_at "w1") => `(tactic| with_reducible refine use_whole ?_)

theorem and_01 {x y : Int} (hx : is01 x) (hy : is01 y) : Builtin.bitAnd x y = bopI .and x y := by
  rcases hx with rfl | rfl <;> rcases hy with rfl | rfl <;> decide
theorem or_01 {x y : Int} (hx : is01 x) (hy : is01 y) : Builtin.bitOr x y = bopI .or x y := by
  rcases hx with rfl | rfl <;> rcases hy with rfl | rfl <;> decide
theorem xor_01 {x y : Int} (hx : is01 x) (hy : is01 y) : Builtin.bitXor x y = bopI .xor x y := by
  rcases hx with rfl | rfl <;> rcases hy with rfl | rfl <;> decide
def sp_gate_bit (K : PySem.W.Frag) : Sp := fun vs H Q _ => ∃ (p b d : Addr) (r : Row) (bs : List Int) (ws : List (Str × Int)) (N : Str → Prop), vs = [.ref p, .ref b, .ref d] ∧ RowAt H p r ∧ SqL K H b (bs.map V.int) ∧ H d = some (.dK (wkv ws)) ∧
  RowOk N bs.length r ∧ noLat r ∧ Has N ws ∧ All01 bs ∧ Q (.int (gateI ws bs r)) H
theorem ok_gate_bit (T : Top K mg) : FnOk P w K mg base CX0 1 T.a_gate_bit T.d_gate_bit ["row", "bits", "words"] (sp_gate_bit K) := by
  refine T.f_gate_bit.ok sc_gate_bit (fun vs H Q E h => ?_) (fun cdv A outer s H vs Q E hr h => ?_)
  · obtain ⟨p, b, d, r, bs, ws, N, rfl, _⟩ := h
    rfl
  obtain ⟨p, b, d, r, bs, ws, N, rfl, h⟩ := h
  refine ⟨_, (pss_cons (ps_set (i := 3) sc_gate_bit.nd rfl (.inl rfl) (pe_ix (ix_tupK K) (pv 0) pe_int (fun _ _ => rfl)))
      (pss_cons (ps_if (pt_cmpR op_eq (pv 3) pe_str (nomark _)) (pss_one (ps_ret (pe_ix (ix_tupK K) (pv 0) pe_int (fun _ _ => rfl)))) pss_nil)
      (pss_cons (ps_if (pt_cmpR op_eq (pv 3) pe_str (nomark _)) (pss_one (ps_ret (pe_op op_bit1 (pe_op op_shrK (pe_dget (hu_of hr) (pv 2) (pe_ix (ix_tupK K) (pv 0) pe_int (fun _ _ => rfl)) (fun _ _ => rfl)) (pe_ix (ix_tupK K) (pv 0) pe_int (fun _ _ => rfl))) pe_int))) pss_nil)
      (pss_cons (ps_if (pt_cmpR op_eq (pv 3) pe_str (nomark _)) (pss_one (ps_ret (pe_op op_sub pe_int (pe_ix (ix_listK K) (pv 1) (pe_ix (ix_tupK K) (pv 0) pe_int (fun _ _ => rfl)) (fun _ _ => rfl))))) pss_nil)
      (pss_cons (ps_if (pt_cmpR op_eq (pv 3) pe_str (nomark _)) (pss_one (ps_ret (pe_op op_and (pe_ix (ix_listK K) (pv 1) (pe_ix (ix_tupK K) (pv 0) pe_int (fun _ _ => rfl)) (fun _ _ => rfl)) (pe_ix (ix_listK K) (pv 1) (pe_ix (ix_tupK K) (pv 0) pe_int (fun _ _ => rfl)) (fun _ _ => rfl))))) pss_nil)
      (pss_cons (ps_if (pt_cmpR op_eq (pv 3) pe_str (nomark _)) (pss_one (ps_ret (pe_op op_or (pe_ix (ix_listK K) (pv 1) (pe_ix (ix_tupK K) (pv 0) pe_int (fun _ _ => rfl)) (fun _ _ => rfl)) (pe_ix (ix_listK K) (pv 1) (pe_ix (ix_tupK K) (pv 0) pe_int (fun _ _ => rfl)) (fun _ _ => rfl))))) pss_nil)
      (pss_one (ps_ret (pe_op op_xor (pe_ix (ix_listK K) (pv 1) (pe_ix (ix_tupK K) (pv 0) pe_int (fun _ _ => rfl)) (fun _ _ => rfl)) (pe_ix (ix_listK K) (pv 1) (pe_ix (ix_tupK K) (pv 0) pe_int (fun _ _ => rfl)) (fun _ _ => rfl))))))))))), ?_⟩
  try dsimp only [cxOf, Cx.nox, Cx.wish]
  simp only [L2.start, List.map_cons, List.map_nil, List.length_cons, List.length_nil, Nat.reduceAdd, Nat.reduceSub, List.replicate_succ, List.replicate_zero, List.cons_append, List.nil_append]
  obtain ⟨hp, hb, hd, ok, nl, has, h01, h⟩ := h
  unfold RowAt at hp
  cases r with
  | fix x =>
    walk_at "ws"
    exact h
  | inn n k =>
    obtain ⟨v, hv⟩ := has n ok.1
    have hv2 : valV (wkv ws) (Sum.inr n) = some (.int v) := by rw [valV_wkv, hv]; rfl
    walk_at "ws"
    have e : gateI ws bs (.inn n k) = v / 2 ^ k % 2 := by
      show (lookW ws n).getD 0 / 2 ^ k % 2 = v / 2 ^ k % 2
      rw [hv]
      rfl
    rw [e] at h
    exact h
  | inv a =>
    walk_at "ws"
    refine w_ixL hb (bit_get ok) ?_
    walk_at "ws"
    exact h
  | bin o x y =>
    have e1 := bit_get ok.1
    have e2 := bit_get ok.2
    cases o with
    | and =>
      walk_at "ws"
      refine w_ixL hb e1 ?_
      walk_at "ws"
      refine w_ixL hb e2 ?_
      walk_at "ws"
      rw [and_01 (all01_get h01 x) (all01_get h01 y)]
      exact h
    | or =>
      walk_at "ws"
      refine w_ixL hb e1 ?_
      walk_at "ws"
      refine w_ixL hb e2 ?_
      walk_at "ws"
      rw [or_01 (all01_get h01 x) (all01_get h01 y)]
      exact h
    | xor =>
      walk_at "ws"
      refine w_ixL hb e1 ?_
      walk_at "ws"
      refine w_ixL hb e2 ?_
      walk_at "ws"
      rw [xor_01 (all01_get h01 x) (all01_get h01 y)]
      exact h
  | lat a => exact nl.elim

/-! numbers drawn from a cell -/
def sp_law_mixed (K : PySem.W.Frag) : Sp := fun vs H Q _ => ∃ c k : Int, vs = [.int c, .int k] ∧ Builtin.Int.intBits c ≤ 1048577 ∧ (0 ≤ k ∧ k ≤ 1000000) ∧ ∀ v : Int, 0 ≤ v → v < 2147483648 → Q (.int v) H
theorem ok_law_mixed (T : Top K mg) : FnOk P w K mg base CX0 1 T.a_law_mixed T.d_law_mixed ["_law_cell", "_law_k"] (sp_law_mixed K) := by
  refine T.f_law_mixed.ok sc_law_mixed (fun vs H Q E h => ?_) (fun cdv A outer s H vs Q E hr h => ?_)
  · obtain ⟨c, k, rfl, _⟩ := h
    rfl
  obtain ⟨c, k, rfl, h⟩ := h
  refine ⟨_, (pss_cons (ps_if (pt_cmpR op_ge (pv 0) (pe_op op_pow pe_int pe_int) (nomark _)) (pss_one (ps_ret (pe_op op_mod (pe_op op_fdivW (pe_op op_sub (pv 0) (pe_op op_pow pe_int pe_int)) (pe_op op_shl pe_int (pe_op op_mulI pe_int (pe_op op_mod (pv 1) pe_int)))) (pe_op op_shl pe_int pe_int)))) pss_nil)
      (pss_cons (ps_set (i := 2) sc_law_mixed.nd rfl (.inl rfl) (pe_op op_mod (pe_op op_add (pe_op op_add (pe_op op_mulI (pv 0) pe_int) (pe_op op_mulI (pe_op op_mulI pe_int (pv 1)) (pv 1))) (pv 1)) pe_int))
      (pss_cons (ps_set (i := 2) sc_law_mixed.nd rfl (.inl rfl) (pe_op op_mod (pe_op op_mulI (pv 2) (pv 2)) pe_int))
      (pss_one (ps_ret (pe_op op_mod (pe_op op_mulI (pv 2) pe_int) pe_int)))))), ?_⟩
  try dsimp only [cxOf, Cx.nox, Cx.wish]
  simp only [L2.start, List.map_cons, List.map_nil, List.length_cons, List.length_nil, Nat.reduceAdd, Nat.reduceSub, List.replicate_succ, List.replicate_zero, List.cons_append, List.nil_append]
  obtain ⟨hc, hk, h⟩ := h
  walk_at "ws"
  · have hp : (0 : Int) < 1 * 2 ^ (31 * (k % 60)).toNat := by
      rw [Int.one_mul]
      exact p2pos _
    refine w_I (wide_div hp (b := 2001) (by rw [abs_pow]; exact Nat.pow_lt_pow_right (by decide) (by omega)) (by decide) (by decide)) ?_
    walk_at "ws"
    have e : (1 : Int) * 2 ^ Int.toNat 31 = 2147483648 := by decide
    rw [e]
    exact h _ (Int.emod_nonneg _ (by decide)) (Int.emod_lt_of_pos _ (by decide))
  · refine h _ (Int.emod_nonneg _ (by decide)) ?_
    exact Int.lt_trans (Int.emod_lt_of_pos _ (by decide)) (by decide)
theorem use_mixed {c k : Int} {H : Hp} {Q : VK} {E : XK} (hc : Builtin.Int.intBits c ≤ 1048577) (hk : 0 ≤ k ∧ k ≤ 1000000) (h : ∀ v : Int, 0 ≤ v → v < 2147483648 → Q (.int v) H) : sp_law_mixed K ([.int c, .int k] ++ []) H Q E :=
  ⟨c, k, rfl, hc, hk, h⟩
local macro_rules | `(tactic| walk_at "w1") => `(tactic| ((with_reducible refine use_mixed ?_ ?_ ?_); (first | assumption | exact Nat.le_succ_of_le (by assumption)); omega; intro _ _ _))

def sp_law_great (K : PySem.W.Frag) : Sp := fun vs H Q _ => ∃ c k : Int, vs = [.int c, .int k] ∧ Builtin.Int.intBits c ≤ 1048577 ∧ (0 ≤ k ∧ k ≤ 100000) ∧ ∀ v : Int, Q (.int v) H
theorem ok_law_great (T : Top K mg) : FnOk P w K mg base CX0 2 T.a_law_great T.d_law_great ["_law_cell", "_law_k"] (sp_law_great K) := by
  refine T.f_law_great.ok sc_law_great (fun vs H Q E h => ?_) (fun cdv A outer s H vs Q E hr h => ?_)
  · obtain ⟨c, k, rfl, _⟩ := h
    rfl
  obtain ⟨c, k, rfl, h⟩ := h
  refine ⟨_, (pss_cons (ps_set (i := 2) sc_law_great.nd rfl (.inl rfl) (pe_op op_add (pe_op op_mulI (pv 0) pe_int) (pe_op op_mulI (pe_call (ok_law_mixed T) (hr.mono (by decide)) (by rfl) T.g_law_mixed T.f_law_mixed.kp T.b_law_mixed .nil pass0 (pa_cons (pv 0) (pa_cons (pv 1) pa_nil))) (pe_op op_pow pe_int pe_int))))
      (pss_cons (ps_set (i := 2) sc_law_great.nd rfl (.inl rfl) (pe_op op_add (pv 2) (pe_op op_mulI (pe_call (ok_law_mixed T) (hr.mono (by decide)) (by rfl) T.g_law_mixed T.f_law_mixed.kp T.b_law_mixed .nil pass0 (pa_cons (pv 0) (pa_cons (pe_op op_add (pv 1) pe_int) pa_nil))) (pe_op op_pow pe_int pe_int))))
      (pss_one (ps_ret (pe_op op_sub (pe_op op_mod (pv 2) (pe_op op_mulI pe_int (pe_op op_pow pe_int pe_int))) (pe_op op_pow pe_int pe_int)))))), ?_⟩
  try dsimp only [cxOf, Cx.nox, Cx.wish]
  simp only [L2.start, List.map_cons, List.map_nil, List.length_cons, List.length_nil, Nat.reduceAdd, Nat.reduceSub, List.replicate_succ, List.replicate_zero, List.cons_append, List.nil_append]
  obtain ⟨hc, hk, h⟩ := h
  walk_at "ws"
  exact h _
theorem use_great {c k : Int} {H : Hp} {Q : VK} {E : XK} (hc : Builtin.Int.intBits c ≤ 1048577) (hk : 0 ≤ k ∧ k ≤ 100000) (h : ∀ v : Int, Q (.int v) H) : sp_law_great K ([.int c, .int k] ++ []) H Q E :=
  ⟨c, k, rfl, hc, hk, h⟩
local macro_rules | `(tactic| walk_at "w1") => `(tactic| ((with_reducible refine use_great ?_ ?_ ?_); (first | assumption | exact Nat.le_succ_of_le (by assumption)); omega; intro _))

def sp_law_list (K : PySem.W.Frag) : Sp := fun vs H Q _ => ∃ (a b : Addr) (ns : List Int), vs = [.ref a, .ref b] ∧ H a = some (.lst (ns.map V.int)) ∧ SqL K H b (ns.map V.int) ∧ ns.length ≤ 100000 ∧ Q (.bl true) H
theorem ok_law_list (T : Top K mg) : FnOk P w K mg base CX0 2 T.a_law_list T.d_law_list ["_law_found", "_law_due"] (sp_law_list K) := by
  refine T.f_law_list.ok sc_law_list (fun vs H Q E h => ?_) (fun cdv A outer s H vs Q E hr h => ?_)
  · obtain ⟨a, b, ns, rfl, _⟩ := h
    rfl
  obtain ⟨a, b, ns, rfl, h⟩ := h
  refine ⟨_, (pss_cons (ps_if (PW.pt (pw_or (pt_not (pt_val (pe_callB (c_isiK K) (by rfl) T.z_isinstance (by decide +kernel) (pa_cons (pv 0) (pa_cons (pe_bltn (v := .ty "list") (by rfl) T.z_list (by decide +kernel) rfl) pa_nil))))) (pw_or1 (pt_cmpR op_ne (pe_callB (c_lenK K) (by rfl) T.z_len PySem.boot_len (pa_cons (pv 0) pa_nil)) (pe_callB (c_lenK K) (by rfl) T.z_len PySem.boot_len (pa_cons (pv 1) pa_nil)) (nomark _))))) (pss_one (ps_ret pe_bl)) pss_nil)
      (pss_cons (ps_for PassesOwn.never rfl (pi_range1 (by rfl) T.z_range (pa_cons (pe_callB (c_lenK K) (by rfl) T.z_len PySem.boot_len (pa_cons (pv 1) pa_nil)) pa_nil)) (pg_name (i := 2) sc_law_list.nd rfl (.inl rfl))
      (pss_one (ps_if (PW.pt (pw_or (pt_not (pt_val (pe_call (ok_law_whole T) (hr.mono (by decide)) (by rfl) T.g_law_whole T.f_law_whole.kp T.b_law_whole .nil pass0 (pa_cons (pe_ix (ix_listK K) (pv 0) (pv 2) (fun _ _ => rfl)) pa_nil)))) (pw_or1 (pt_cmpR op_ne (pe_ix (ix_listK K) (pv 0) (pv 2) (fun _ _ => rfl)) (pe_ix (ix_listK K) (pv 1) (pv 2) (fun _ _ => rfl)) (nomark _))))) (pss_one (ps_ret pe_bl)) pss_nil)))
      (pss_one (ps_ret pe_bl)))), ?_⟩
  try dsimp only [cxOf, Cx.nox, Cx.wish]
  simp only [L2.start, List.map_cons, List.map_nil, List.length_cons, List.length_nil, Nat.reduceAdd, Nat.reduceSub, List.replicate_succ, List.replicate_zero, List.cons_append, List.nil_append]
  obtain ⟨ha, hb, hl, h⟩ := h
  walk_at "ws"
  refine for_r (fun i σ' H' => ∃ y, σ' = [some (.ref a), some (.ref b), y] ∧ H' = H) ⟨_, rfl, rfl⟩ (fun i σ' H' hi q => ?_) (fun σ' H' q => ?_)
  · obtain ⟨y, rfl, e⟩ := q
    subst e
    have hi' : i < ns.length := by
      rw [List.length_map] at hi
      omega
    walk_at "ws"
    refine w_ixL (SqL.of ha) (get_int hi') ?_
    walk_at "ws"
    refine w_ixL (SqL.of ha) (get_int hi') ?_
    walk_at "ws"
    refine w_ixL hb (get_int hi') ?_
    walk_at "ws"
    exact ⟨_, rfl, rfl⟩
  · obtain ⟨y, rfl, e⟩ := q
    subst e
    walk_at "ws"
    exact h

/-! names: one to six small letters -/
def letter (c : Nat) : Prop := 97 ≤ c ∧ c ≤ 122
def NameOk (s : Str) : Prop := (1 ≤ s.length ∧ s.length ≤ 6) ∧ ∀ c ∈ s.cps.toList, letter c
theorem letters_at (i : Int) (h : 0 ≤ i ∧ i < 26) : ∃ c, atI (Str.ofString "abcdefghijklmnopqrstuvwxyz").cps.toList i = some c ∧ letter c := by
  have e : (Str.ofString "abcdefghijklmnopqrstuvwxyz").cps.toList = (List.range 26).map (· + 97) := by decide +kernel
  rw [e]
  obtain ⟨n, rfl⟩ := Int.eq_ofNat_of_zero_le h.1
  have hn : n < 26 := by omega
  refine ⟨n + 97, atI_nat ?_, by unfold letter; omega⟩
  rw [List.getElem?_map, List.getElem?_range hn]
  rfl
theorem tl_concat : ∀ ss : List Str, (Txt.join "" ss).cps.toList = (ss.map fun s => s.cps.toList).flatten := by
  intro ss
  have h : TL.tl (Txt.join "" ss) = TL.joinL (TL.tl "") (ss.map TL.tl) := by rw [TL.join_eq, TL.tl_join]
  have e : TL.tl "" = [] := by decide +kernel
  rw [e] at h
  have key : ∀ l : List (List Nat), TL.joinL [] l = l.flatten := by
    intro l
    induction l with
    | nil => rfl
    | cons p r ih =>
      cases r with
      | nil => exact (List.append_nil p).symm
      | cons q r => show p ++ ([] ++ TL.joinL [] (q :: r)) = p ++ (q :: r).flatten; rw [List.nil_append, ih]
  rw [key] at h
  exact h
/-- signs that are one letter each -/
def oneL (s : Str) : Prop := ∃ c, s = ⟨#[c]⟩ ∧ letter c
theorem ones_join {ss : List Str} (h : ∀ s ∈ ss, oneL s) : (Txt.join "" ss).length = ss.length ∧ ∀ c ∈ (Txt.join "" ss).cps.toList, letter c := by
  have e := tl_concat ss
  have key : ∀ ss : List Str, (∀ s ∈ ss, oneL s) → (ss.map fun s => s.cps.toList).flatten.length = ss.length ∧ ∀ c ∈ (ss.map fun s => s.cps.toList).flatten, letter c := by
    intro ss
    induction ss with
    | nil => intro _; exact ⟨rfl, fun c hc => by cases hc⟩
    | cons s r ih =>
      intro h
      obtain ⟨c, rfl, hc⟩ := h s (List.mem_cons_self ..)
      obtain ⟨h1, h2⟩ := ih fun z hz => h z (List.mem_cons_of_mem _ hz)
      refine ⟨?_, fun d hd => ?_⟩
      · show (c :: (r.map fun s => s.cps.toList).flatten).length = (r.length + 1)
        rw [List.length_cons, h1]
      · rcases List.mem_cons.mp (show d ∈ c :: (r.map fun s => s.cps.toList).flatten from hd) with q | q
        · rw [q]; exact hc
        · exact h2 d q
  obtain ⟨k1, k2⟩ := key ss h
  refine ⟨?_, fun c hc => k2 c (by rw [← e]; exact hc)⟩
  rw [← k1, ← e]
  exact (Array.length_toList).symm
theorem ones_sum : ∀ {ss : List Str}, (∀ s ∈ ss, oneL s) → (ss.map (·.length)).sum = ss.length
  | [], _ => rfl
  | s :: r, h => by
    obtain ⟨c, rfl, hc⟩ := h s (List.mem_cons_self ..)
    have ih := ones_sum fun z hz => h z (List.mem_cons_of_mem _ hz)
    rw [List.map_cons, List.sum_cons, ih, List.length_cons]
    show 1 + r.length = r.length + 1
    omega
theorem cut_name {z : Str} {n : Nat} (hz : n ≤ z.length) (h : ∀ c ∈ z.cps.toList, letter c) (hn : 1 ≤ n ∧ n ≤ 6) : NameOk (cutS z none (some (n : Int))) := by
  have e : (cutS z none (some (n : Int))).cps.toList = z.cps.toList.take n := by
    unfold cutS
    rw [HT.sIx_none, HT.sIx_nat, Nat.min_eq_left hz, List.drop_zero, Nat.sub_zero, List.toList_toArray]
  have hl : (cutS z none (some (n : Int))).length = n := by
    have : (cutS z none (some (n : Int))).length = (cutS z none (some (n : Int))).cps.toList.length := (Array.length_toList).symm
    rw [this, e, List.length_take]
    have : z.cps.toList.length = z.length := Array.length_toList
    omega
  refine ⟨by rw [hl]; exact hn, fun c hc => ?_⟩
  rw [e] at hc
  exact h c (List.mem_of_mem_take hc)
theorem name_strOk {s : Str} (h : NameOk s) : PyData.strOk s = true := by
  unfold PyData.strOk
  rw [Array.all_eq_true_iff_forall_mem]
  intro c hc
  have := h.2 c (Array.mem_toList_iff.mpr hc)
  unfold letter at this
  exact decide_eq_true (by omega)
def sp_law_names (K : PySem.W.Frag) : Sp := fun vs H Q _ => ∃ n : Int, vs = [.int n] ∧ (0 ≤ n ∧ n < 2147483648) ∧
  ∀ (nm : List Str) p H', nm.length = 4 → (∀ x ∈ nm, NameOk x) → H p = none → Same H H' → H' p = some (.lst (nm.map V.str)) → Q (.ref p) H'
theorem ok_law_names (T : Top K mg) : FnOk P w K mg base CX0 1 T.a_law_names T.d_law_names ["_law_number"] (sp_law_names K) := by
  refine T.f_law_names.ok sc_law_names (fun vs H Q E h => ?_) (fun cdv A outer s H vs Q E hr h => ?_)
  · obtain ⟨n, rfl, _⟩ := h
    rfl
  obtain ⟨n, rfl, h⟩ := h
  refine ⟨_, (pss_cons (ps_set (i := 1) sc_law_names.nd rfl (.inr rfl) pe_str)
      (pss_cons (ps_set (i := 2) sc_law_names.nd rfl (.inr rfl) (pe_lc (own := [("_law_k", 8)]) (g := gName 8) (tt := tYes) (by rfl) sc_law_names.nd (pi_range1 (by rfl) T.z_range (pa_cons (pe_op op_add pe_int (pe_op op_mod (pv 0) pe_int)) pa_nil)) (blkOk_by (N := ["_law_number", "_law_letters", "_law_some_here", "_law_at_here", "_law_names_here", "_law_j", "_law_spots", "_law_word", "_law_k", "_law_spot"]) (sc := defScope s_law_names) (by decide +kernel)) (fun _ _ _ _ _ => (pg_name (i := 8) sc_law_names.nd rfl (.inl rfl))) (fun _ _ _ _ _ => pts_nil) (fun _ _ _ _ _ => (pe_op op_mod (pe_op op_fdiv (pv 0) (pe_op op_add (pv 8) pe_int)) pe_int))))
      (pss_cons (ps_set (i := 3) sc_law_names.nd rfl (.inr rfl) (pe_op op_mod (pe_op op_fdiv (pv 0) pe_int) (pe_callB (c_lenK K) (by rfl) T.z_len PySem.boot_len (pa_cons (pv 2) pa_nil))))
      (pss_cons (ps_set (i := 4) sc_law_names.nd rfl (.inl rfl) (pe_lst pa_nil))
      (pss_cons (ps_for PassesOwn.never rfl (pi_range1 (by rfl) T.z_range (pa_cons pe_int pa_nil)) (pg_name (i := 5) sc_law_names.nd rfl (.inr rfl))
      (pss_cons (ps_setLc (i := 6) (own := [("_law_k", 8)]) (g := gName 8) (tt := tYes) (by rfl) sc_law_names.nd rfl rfl (sw_true rfl rfl rfl (by decide +kernel)) (pi_range1 (by rfl) T.z_range (pa_cons (pe_callB (c_lenK K) (by rfl) T.z_len PySem.boot_len (pa_cons (pv 2) pa_nil)) pa_nil)) (blkOk_by (N := ["_law_number", "_law_letters", "_law_some_here", "_law_at_here", "_law_names_here", "_law_j", "_law_spots", "_law_word", "_law_k", "_law_spot"]) (sc := defScope s_law_names) (by decide +kernel)) (fun _ _ _ _ _ => (pg_name (i := 8) sc_law_names.nd rfl (.inl rfl))) (fun _ _ _ _ _ => pts_nil) (fun _ _ _ _ _ => (pe_op op_add (pe_ix (ix_listK K) (pv 2) (pv 8) (fun _ _ => rfl)) (pe_op op_mulI (pv 5) (pe_callTy c_intB (by rfl) T.z_int (by decide +kernel) (pa_cons (pe_cmpR op_eq (pv 8) (pv 3) (nomark _)) pa_nil))))))
      (pss_one (ps_expr (pe_bm PySem.F.plainAttrs_list PySem.F.slot_list_append PySem.F.type_list_append mt_append (pv 4) (pa_cons (p_join K pe_str (pe_lc (own := [("_law_spot", 9)]) (g := gName 9) (tt := tYes) (by rfl) sc_law_names.nd (pi_list (pv 6)) (blkOk_by (N := ["_law_number", "_law_letters", "_law_some_here", "_law_at_here", "_law_names_here", "_law_j", "_law_spots", "_law_word", "_law_k", "_law_spot"]) (sc := defScope s_law_names) (by decide +kernel)) (fun _ _ _ _ _ => (pg_name (i := 9) sc_law_names.nd rfl (.inl rfl))) (fun _ _ _ _ _ => pts_nil) (fun _ _ _ _ _ => (pe_ix ix_str (pv 1) (pe_op op_mod (pv 9) pe_int) (fun _ _ => rfl))))) pa_nil))))))
      (Evl.pss_cut (ps_if (pt_cmpR op_eq (pe_op op_mod (pe_op op_fdiv (pv 0) pe_int) pe_int) pe_int (nomark _)) (pss_cons (ps_set (i := 7) sc_law_names.nd rfl (.inr rfl) (p_join K pe_str (pe_lc (own := [("_law_k", 8)]) (g := gName 8) (tt := tYes) (by rfl) sc_law_names.nd (pi_range1 (by rfl) T.z_range (pa_cons pe_int pa_nil)) (blkOk_by (N := ["_law_number", "_law_letters", "_law_some_here", "_law_at_here", "_law_names_here", "_law_j", "_law_spots", "_law_word", "_law_k", "_law_spot"]) (sc := defScope s_law_names) (by decide +kernel)) (fun _ _ _ _ _ => (pg_name (i := 8) sc_law_names.nd rfl (.inl rfl))) (fun _ _ _ _ _ => pts_nil) (fun _ _ _ _ _ => (pe_ix ix_str (pv 1) (pe_op op_mod (pe_op op_fdiv (pv 0) (pe_op op_add (pv 8) pe_int)) pe_int) (fun _ _ => rfl))))))
      (pss_one (ps_setLc (i := 4) (own := [("_law_k", 8)]) (g := gName 8) (tt := tYes) (by rfl) sc_law_names.nd rfl rfl (sw_true rfl rfl rfl (by decide +kernel)) (pi_range1 (by rfl) T.z_range (pa_cons pe_int pa_nil)) (blkOk_by (N := ["_law_number", "_law_letters", "_law_some_here", "_law_at_here", "_law_names_here", "_law_j", "_law_spots", "_law_word", "_law_k", "_law_spot"]) (sc := defScope s_law_names) (by decide +kernel)) (fun _ _ _ _ _ => (pg_name (i := 8) sc_law_names.nd rfl (.inl rfl))) (fun _ _ _ _ _ => pts_nil) (fun _ _ _ _ _ => (pe_slice sl_str (pv 7) po_none (po_some (pe_op op_add (pv 8) pe_int))))))) pss_nil)
      (pss_one (ps_ret (pv 4))))))))), ?_⟩
  try dsimp only [cxOf, Cx.nox, Cx.wish]
  simp only [L2.start, List.map_cons, List.map_nil, List.length_cons, List.length_nil, Nat.reduceAdd, Nat.reduceSub, List.replicate_succ, List.replicate_zero, List.cons_append, List.nil_append]
  obtain ⟨hn, h⟩ := h
  walk_at "ws"
  refine lc_rx (lo := 0) (fun y => ∃ i : Int, y = .int i ∧ True) (by omega) (fun x => rfl) (fun i H' Q' hi _ q => ?_) (fun ys p H1 hl hP n1 s1 e1 => ?_)
  · rw [Int.zero_add]
    walk_at "ws"
    exact q _ ⟨_, rfl, True.intro⟩
  obtain ⟨xs, rfl, _⟩ := all_map (f := V.int) (R := fun _ => True) hP
  have hlx : xs.length = (1 + n % 6).toNat := by rw [← hl, List.length_map]
  have hlm : (xs.map V.int).length = xs.length := List.length_map ..
  walk_at "ws"
  rename_i p2 H2 n2 s2 e2
  have hat0 : 0 ≤ n / 64 % ((xs.map V.int).length : Int) := Int.emod_nonneg _ (by omega)
  generalize n / 64 % ((xs.map V.int).length : Int) = at0 at *
  refine for_r (fun i σ' G => ∃ (nm : List Str) (y5 y6 : Option V), σ' = [some (.int n), some (.str "abcdefghijklmnopqrstuvwxyz"), some (.ref p), some (.int at0), some (.ref p2), y5, y6, none, none, none] ∧ Same H1 G ∧ G p2 = some (.lst (nm.map V.str)) ∧ nm.length = i ∧ ∀ x ∈ nm, NameOk x) ⟨[], _, _, rfl, s2, e2, rfl, fun x h => (by cases h)⟩ (fun i σ' G hi q => ?_) (fun σ' G q => ?_)
  · obtain ⟨nm, y5, y6, rfl, sG, eG, hnm, hok⟩ := q
    walk_at "ws"
    refine lc_rx (lo := 0) (fun y => ∃ i : Int, y = .int i ∧ True) (by omega) (fun x => rfl) (fun k H' Q' hk sm q => ?_) (fun ys p3 G1 hl3 hP3 n3 s3 e3 => ?_)
    · rw [Int.zero_add]
      have hk2 : k < xs.length := by omega
      walk_at "ws"
      refine w_ixL ((sG.trans sm).seq (SqL.of e1)) (get_int hk2) ?_
      walk_at "ws"
      exact q _ ⟨_, rfl, True.intro⟩
    obtain ⟨zs, rfl, _⟩ := all_map (f := V.int) (R := fun _ => True) hP3
    have hlz : zs.length = xs.length := by
      rw [List.length_map] at hl3
      omega
    walk_at "ws"
    refine lc_lx (zs.map V.int) (fun y => ∃ s : Str, y = .str s ∧ oneL s) (SqL.of e3) (by rw [List.length_map]; omega) (fun x => rfl) (fun k x H' Q' hx sm q => ?_) (fun ys p4 G2 hl4 hP4 n4 s4 e4 => ?_)
    · obtain ⟨z, _, rfl⟩ := get_map hx
      walk_at "ws"
      obtain ⟨c, hc, lc⟩ := letters_at (z % 26) (by omega)
      refine w_ixS (by decide +kernel) hc ?_
      exact q _ ⟨_, rfl, c, rfl, lc⟩
    obtain ⟨ss, rfl, hss⟩ := all_map (f := V.str) (R := oneL) hP4
    have hls : ss.length = xs.length := by
      rw [List.length_map, List.length_map] at hl4
      omega
    have e0 : (Str.ofString "").length = 0 := by decide +kernel
    refine w_join (SqL.of e4) (by rw [ones_sum hss, e0]; omega) ?_
    obtain ⟨j1, j2⟩ := ones_join hss
    have eG2 : G2 p2 = some (.lst (nm.map V.str)) := s4 _ _ (s3 _ _ eG)
    walk_at "ws"
    refine ⟨nm ++ [Txt.join "" ss], _, _, rfl, same_mut ((sG.trans s3).trans s4) n2, ?_, by rw [List.length_append, hnm]; rfl, fun x hx => ?_⟩
    · rw [upd_same, List.map_append]
      rfl
    · rcases List.mem_append.mp hx with k | k
      · exact hok x k
      · rw [List.mem_singleton.mp k]
        exact ⟨by rw [j1]; omega, j2⟩
  obtain ⟨nm, y5, y6, rfl, sG, eG, hnm, hok⟩ := q
  walk_at "ws"
  have hnp : H p2 = none := s1.free n2
  refine w_cut (fun σ' G' => ∃ (nm : List Str) (q : Addr) (y7 : Option V), σ' = [some (.int n), some (.str "abcdefghijklmnopqrstuvwxyz"), some (.ref p), some (.int at0), some (.ref q), y5, y6, y7, none, none] ∧ Same H G' ∧ H q = none ∧ G' q = some (.lst (nm.map V.str)) ∧ nm.length = 4 ∧ ∀ x ∈ nm, NameOk x) ?_ ?_
  · walk_at "ws"
    · refine lc_rx (lo := 0) (fun y => ∃ s : Str, y = .str s ∧ oneL s) (by decide) (fun x => rfl) (fun k H' Q' hk sm q => ?_) (fun ys p4 G2 hl4 hP4 n4 s4 e4 => ?_)
      · have hk5 : k < 5 := hk
        rw [Int.zero_add]
        walk_at "ws"
        obtain ⟨c, hc, lc⟩ := letters_at (n / ((k : Int) + 3) % 26) (by omega)
        refine w_ixS (by decide +kernel) hc ?_
        exact q _ ⟨_, rfl, c, rfl, lc⟩
      obtain ⟨ss, rfl, hss⟩ := all_map (f := V.str) (R := oneL) hP4
      have hls : ss.length = 5 := by
        rw [List.length_map] at hl4
        exact hl4
      have e0 : (Str.ofString "").length = 0 := by decide +kernel
      refine w_join (SqL.of e4) (by rw [ones_sum hss, e0]; omega) ?_
      obtain ⟨j1, j2⟩ := ones_join hss
      walk_at "ws"
      refine lc_rx (lo := 0) (fun y => ∃ s : Str, y = .str s ∧ NameOk s) (by decide) (fun x => rfl) (fun k H' Q' hk sm q => ?_) (fun ys p5 G3 hl5 hP5 n5 s5 e5 => ?_)
      · have hk4 : k < 4 := hk
        rw [Int.zero_add]
        walk_at "ws"
        refine w_slS (by omega) ?_
        refine q _ ⟨_, rfl, ?_⟩
        exact cut_name (n := k + 1) (by omega) j2 (by omega)
      obtain ⟨ns, rfl, hns⟩ := all_map (f := V.str) (R := NameOk) hP5
      have hln : ns.length = 4 := by
        rw [List.length_map] at hl5
        exact hl5
      walk_at "ws"
      exact ⟨ns, p5, _, rfl, ((s1.trans sG).trans s4).trans s5, ((s1.trans sG).trans s4).free n5, e5, hln, hns⟩
    · exact ⟨nm, p2, _, rfl, s1.trans sG, hnp, eG, hnm, hok⟩
  rintro σ1 G1 ⟨nm, q, y7, rfl, sG1, nq, eq, hl, hok⟩
  walk_at "ws"
  exact h nm q G1 hl hok nq sG1 eq

def Bits (ns : List Int) : Prop := ∀ z ∈ ns, Builtin.Int.intBits z ≤ 1048576
def sp_law_at (K : PySem.W.Frag) : Sp := fun vs H Q _ => ∃ (a : Addr) (ns : List Int) (k : Int), vs = [.ref a, .int k] ∧ SqL K H a (ns.map V.int) ∧ Bits ns ∧ (0 ≤ k ∧ k ≤ 1000000) ∧ ∀ v : Int, Builtin.Int.intBits v ≤ 1048576 → Q (.int v) H
theorem ok_law_at (T : Top K mg) : FnOk P w K mg base CX0 1 T.a_law_at T.d_law_at ["_law_script", "_law_k"] (sp_law_at K) := by
  refine T.f_law_at.ok sc_law_at (fun vs H Q E h => ?_) (fun cdv A outer s H vs Q E hr h => ?_)
  · obtain ⟨a, ns, k, rfl, _⟩ := h
    rfl
  obtain ⟨a, ns, k, rfl, h⟩ := h
  refine ⟨_, (pss_cons (ps_if (pt_cmpR op_lt (pv 1) (pe_callB (c_lenK K) (by rfl) T.z_len PySem.boot_len (pa_cons (pv 0) pa_nil)) (nomark _)) (pss_one (ps_ret (pe_ix (ix_listK K) (pv 0) (pv 1) (fun _ _ => rfl)))) pss_nil)
      (pss_one (ps_ret pe_int))), ?_⟩
  try dsimp only [cxOf, Cx.nox, Cx.wish]
  simp only [L2.start, List.map_cons, List.map_nil, List.length_cons, List.length_nil, Nat.reduceAdd, Nat.reduceSub, List.replicate_succ, List.replicate_zero, List.cons_append, List.nil_append]
  obtain ⟨hS, hb, hk, h⟩ := h
  walk_at "ws"
  · rename_i hlt
    rw [List.length_map] at hlt
    obtain ⟨n, rfl⟩ := Int.eq_ofNat_of_zero_le hk.1
    have hn : n < ns.length := by omega
    refine w_ixL hS (get_int hn) ?_
    walk_at "ws"
    exact h _ (hb _ (List.getElem_mem hn))
  · exact h _ (by decide)
theorem use_at {a : Addr} {ns : List Int} {k : Int} {H : Hp} {Q : VK} {E : XK} (hS : SqL K H a (ns.map V.int)) (hb : Bits ns) (hk : 0 ≤ k ∧ k ≤ 1000000) (h : ∀ v : Int, Builtin.Int.intBits v ≤ 1048576 → Q (.int v) H) : sp_law_at K ([.ref a, .int k] ++ []) H Q E := ⟨a, ns, k, rfl, hS, hb, hk, h⟩
local macro_rules | `(tactic| walk_at "w1") => `(tactic| ((with_reducible apply use_at); (walk_at "sq"); assumption; omega; intro _ _))
/-- a drawn number -/
def Drawn (x : Int) : Prop := 0 ≤ x ∧ x < 2147483648
def sp_law_numbers (K : PySem.W.Frag) : Sp := fun vs H Q _ => ∃ (a : Addr) (ns : List Int) (k : Int), vs = [.ref a, .int k] ∧ SqL K H a (ns.map V.int) ∧ Bits ns ∧ (0 ≤ k ∧ k ≤ 100) ∧
  ∀ (xs : List Int) p H', xs.length ≤ 63 → (∀ x ∈ xs, Drawn x) → H p = none → Same H H' → H' p = some (.lst (xs.map V.int)) → Q (.ref p) H'
theorem ok_law_numbers (T : Top K mg) : FnOk P w K mg base CX0 2 T.a_law_numbers T.d_law_numbers ["_law_script", "_law_start"] (sp_law_numbers K) := by
  refine T.f_law_numbers.ok sc_law_numbers (fun vs H Q E h => ?_) (fun cdv A outer s H vs Q E hr h => ?_)
  · obtain ⟨a, ns, k, rfl, _⟩ := h
    rfl
  obtain ⟨a, ns, k, rfl, h⟩ := h
  refine ⟨_, (pss_cons (ps_set (i := 2) sc_law_numbers.nd rfl (.inr rfl) (pe_slice sl_list (pv 0) po_none (po_some pe_int)))
      (pss_one (ps_ret (pe_lc (own := [("_law_k", 3)]) (g := gName 3) (tt := tYes) (by rfl) sc_law_numbers.nd (pi_range2 (by rfl) T.z_range (pa_cons (pv 1) (pa_cons (pe_callB (c_lenK K) (by rfl) T.z_len PySem.boot_len (pa_cons (pv 2) pa_nil)) pa_nil))) (blkOk_by (N := ["_law_script", "_law_start", "_law_some_here", "_law_k"]) (sc := defScope s_law_numbers) (by decide +kernel)) (fun _ _ _ _ _ => (pg_name (i := 3) sc_law_numbers.nd rfl (.inl rfl))) (fun _ _ _ _ _ => pts_nil) (fun _ _ _ _ _ => (pe_call (ok_law_mixed T) (hr.mono (by decide)) (by rfl) T.g_law_mixed T.f_law_mixed.kp T.b_law_mixed .nil pass0 (pa_cons (pe_ix (ix_listK K) (pv 2) (pv 3) (fun _ _ => rfl)) (pa_cons (pv 3) pa_nil)))))))), ?_⟩
  try dsimp only [cxOf, Cx.nox, Cx.wish]
  simp only [L2.start, List.map_cons, List.map_nil, List.length_cons, List.length_nil, Nat.reduceAdd, Nat.reduceSub, List.replicate_succ, List.replicate_zero, List.cons_append, List.nil_append]
  obtain ⟨hS, hb, hk, h⟩ := h
  have hlm : (ns.map V.int).length = ns.length := List.length_map ..
  walk_at "ws"
  rename_i p1 H1 n1 s1 e1
  have e0 : cutV (ns.map V.int) none (some 63) = (ns.take 63).map V.int := by
    rw [show (63 : Int) = ((63 : Nat) : Int) from rfl, cut_upto, ← List.map_take]
  rw [e0] at e1
  rw [e0]
  have hl2 : (ns.take 63).length ≤ 63 := by rw [List.length_take]; omega
  have hlm2 : ((ns.take 63).map V.int).length = (ns.take 63).length := List.length_map ..
  have hb2 : Bits (ns.take 63) := fun z hz => hb z (List.mem_of_mem_take hz)
  generalize ns.take 63 = ms at *
  walk_at "ws"
  refine lc_rx (lo := k) (fun y => ∃ i : Int, y = .int i ∧ Drawn i) (by omega) (fun x => rfl) (fun i H' Q' hi sm q => ?_) (fun ys p H2 hl hP n2 s2 e2 => ?_)
  · obtain ⟨n, rfl⟩ := Int.eq_ofNat_of_zero_le hk.1
    have hn : n + i < ms.length := by omega
    have ek : ((n : Int) + (i : Int)) = ((n + i : Nat) : Int) := by omega
    rw [ek]
    have hbn := hb2 _ (List.getElem_mem hn)
    walk_at "ws"
    refine w_ixL (sm.seq (SqL.of e1)) (get_int hn) ?_
    walk_at "ws"
    rename_i v v0 v1
    exact q _ ⟨v, rfl, v0, v1⟩
  obtain ⟨xs, rfl, hx⟩ := all_map (f := V.int) (R := Drawn) hP
  have hlx : xs.length = ((ms.map V.int).length - k).toNat := by
    rw [← hl, List.length_map]
  exact h xs p H2 (by omega) hx (s1.free n2) (s1.trans s2) e2
/-- an in row of some names -/
def inRow (nm : List Str) (r : Row) : Prop := ∃ x k, r = .inn x k ∧ x ∈ nm ∧ k < 64
def sp_law_ins (K : PySem.W.Frag) : Sp := fun vs H Q _ => ∃ (a : Addr) (nm : List Str) (n m : Int), vs = [.ref a, .int n, .int m] ∧ SqL K H a (nm.map V.str) ∧ nm.length = 4 ∧ (0 ≤ n ∧ n < 2147483648) ∧ (0 ≤ m ∧ m ≤ 1000) ∧
  ∀ (rs : List Row) p H', rs.length = m.toNat → (∀ r ∈ rs, inRow nm r) → H p = none → Same H H' → RowsM H' p rs → Q (.ref p) H'
theorem get_str {ns : List Str} {i : Int} (h : 0 ≤ i ∧ i < ns.length) : ∃ x, atI (ns.map V.str) i = some (.str x) ∧ x ∈ ns := by
  obtain ⟨n, rfl⟩ := Int.eq_ofNat_of_zero_le h.1
  have hn : n < ns.length := by omega
  exact ⟨ns[n], atI_nat (by rw [List.getElem?_map, List.getElem?_eq_getElem hn]; rfl), List.getElem_mem hn⟩
theorem ok_law_ins (T : Top K mg) : FnOk P w K mg base CX0 1 T.a_law_ins T.d_law_ins ["_law_names_here", "_law_number", "_law_many"] (sp_law_ins K) := by
  refine T.f_law_ins.ok sc_law_ins (fun vs H Q E h => ?_) (fun cdv A outer s H vs Q E hr h => ?_)
  · obtain ⟨a, nm, n, m, rfl, _⟩ := h
    rfl
  obtain ⟨a, nm, n, m, rfl, h⟩ := h
  refine ⟨_, (pss_cons (ps_set (i := 3) sc_law_ins.nd rfl (.inl rfl) (pe_lst pa_nil))
      (pss_cons (ps_for PassesOwn.never rfl (pi_range1 (by rfl) T.z_range (pa_cons (pv 2) pa_nil)) (pg_name (i := 4) sc_law_ins.nd rfl (.inl rfl))
      (pss_one (ps_expr (pe_bm PySem.F.plainAttrs_list PySem.F.slot_list_append PySem.F.type_list_append mt_append (pv 3) (pa_cons (pe_tup (pa_cons pe_str (pa_cons (pe_ix (ix_listK K) (pv 0) (pe_op op_mod (pe_op op_fdiv (pv 1) (pe_op op_add (pv 4) pe_int)) pe_int) (fun _ _ => rfl)) (pa_cons (pe_op op_mod (pe_op op_fdiv (pv 1) (pe_op op_add (pe_op op_mulI (pv 4) (pv 4)) pe_int)) pe_int) pa_nil)))) pa_nil)))))
      (pss_one (ps_ret (pv 3))))), ?_⟩
  try dsimp only [cxOf, Cx.nox, Cx.wish]
  simp only [L2.start, List.map_cons, List.map_nil, List.length_cons, List.length_nil, Nat.reduceAdd, Nat.reduceSub, List.replicate_succ, List.replicate_zero, List.cons_append, List.nil_append]
  obtain ⟨hS, h4, hn, hm, h⟩ := h
  walk_at "ws"
  rename_i o H1 n1 s1 e1
  refine for_r (fun i σ' G => ∃ (rs : List Row) (y : Option V), σ' = [some (.ref a), some (.int n), some (.int m), some (.ref o), y] ∧ Same H G ∧ RowsM G o rs ∧ rs.length = i ∧ ∀ r ∈ rs, inRow nm r) ⟨[], _, rfl, s1, ⟨[], e1, A2.nil⟩, rfl, fun r hr => (by cases hr)⟩ (fun i σ' G hi q => ?_) (fun σ' G q => ?_)
  · obtain ⟨rs, y, rfl, sG, ⟨ps, e, hA⟩, hl, hr'⟩ := q
    have hpl := hA.1
    have kk : (0 : Int) ≤ (i : Int) * (i : Int) := Int.mul_nonneg (Int.natCast_nonneg i) (Int.natCast_nonneg i)
    have kk2 : (i : Int) * (i : Int) ≤ 1000 * 1000 := Int.mul_le_mul (by omega) (by omega) (Int.natCast_nonneg i) (by decide)
    walk_at "ws"
    obtain ⟨x, hx, mx⟩ := get_str (ns := nm) (i := n / ((i : Int) + 1) % 4) (by omega)
    refine w_ixL (sG.seq hS) hx ?_
    walk_at "ws"
    rename_i p2 H2 n2 s2 e2
    have d0 : 0 ≤ n / ((i : Int) * (i : Int) + 5) % 64 := by omega
    have d1 : n / ((i : Int) * (i : Int) + 5) % 64 < 64 := by omega
    generalize n / ((i : Int) * (i : Int) + 5) % 64 = z at *
    obtain ⟨zn, rfl⟩ := Int.eq_ofNat_of_zero_le d0
    refine ⟨rs ++ [.inn x zn], _, rfl, same_mut (sG.trans s2) n1, RowsM.push (s2 _ _ e) (hA.mono fun _ _ e => s2 _ _ e) (r := .inn x zn) e2, by rw [List.length_append, hl]; rfl, fun r hr => ?_⟩
    rcases List.mem_append.mp hr with k | k
    · exact hr' r k
    · rw [List.mem_singleton.mp k]
      exact ⟨x, zn, rfl, mx, by omega⟩
  · obtain ⟨rs, y, rfl, sG, hM, hl, hr'⟩ := q
    walk_at "ws"
    exact h rs o G hl hr' n1 sG hM
/-- a row with its wires turned -/
def turnR : Row → Row
  | .bin o a b => .bin o b a
  | r => r
def sp_law_turned (K : PySem.W.Frag) : Sp := fun vs H Q _ => ∃ (p : Addr) (r : Row), vs = [.ref p] ∧ RowAt H p r ∧ ∀ q H', Same H H' → RowAt H' q (turnR r) → Q (.ref q) H'
theorem ok_law_turned (T : Top K mg) : FnOk P w K mg base CX0 1 T.a_law_turned T.d_law_turned ["_law_row"] (sp_law_turned K) := by
  refine T.f_law_turned.ok sc_law_turned (fun vs H Q E h => ?_) (fun cdv A outer s H vs Q E hr h => ?_)
  · obtain ⟨p, r, rfl, _⟩ := h
    rfl
  obtain ⟨p, r, rfl, h⟩ := h
  refine ⟨_, (pss_cons (ps_if (pt_cmpR (op_inK K) (pe_ix (ix_tupK K) (pv 0) pe_int (fun _ _ => rfl)) (pe_lst (pa_cons pe_str (pa_cons pe_str (pa_cons pe_str pa_nil)))) (by rfl)) (pss_one (ps_ret (pe_tup (pa_cons (pe_ix (ix_tupK K) (pv 0) pe_int (fun _ _ => rfl)) (pa_cons (pe_ix (ix_tupK K) (pv 0) pe_int (fun _ _ => rfl)) (pa_cons (pe_ix (ix_tupK K) (pv 0) pe_int (fun _ _ => rfl)) pa_nil)))))) pss_nil)
      (pss_one (ps_ret (pv 0)))), ?_⟩
  try dsimp only [cxOf, Cx.nox, Cx.wish]
  simp only [L2.start, List.map_cons, List.map_nil, List.length_cons, List.length_nil, Nat.reduceAdd, Nat.reduceSub, List.replicate_succ, List.replicate_zero, List.cons_append, List.nil_append]
  obtain ⟨hp, h⟩ := h
  unfold RowAt at hp
  have hs : H p = some (.tup (rowV r)) := hp
  cases r with
  | bin o a b =>
    cases o <;> (walk_at "ws"; rename_i p1 H1 n1 s1 e1 p2 H2 n2 s2 e2; exact h p2 H2 (s1.trans s2) e2)
  | fix b => walk_at "ws"; rename_i p1 H1 n1 s1 e1; exact h p H1 s1 (s1 _ _ hs)
  | inn n k => walk_at "ws"; rename_i p1 H1 n1 s1 e1; exact h p H1 s1 (s1 _ _ hs)
  | inv a => walk_at "ws"; rename_i p1 H1 n1 s1 e1; exact h p H1 s1 (s1 _ _ hs)
  | lat a => walk_at "ws"; rename_i p1 H1 n1 s1 e1; exact h p H1 s1 (s1 _ _ hs)
theorem bop_at (i : Int) (h : 0 ≤ i ∧ i < 3) : ∃ o, atI [V.str "and", V.str "or", V.str "xor"] i = some (.str (bopS o)) := by
  rcases (show i = 0 ∨ i = 1 ∨ i = 2 by omega) with e | e | e <;> rw [e]
  · exact ⟨.and, rfl⟩
  · exact ⟨.or, rfl⟩
  · exact ⟨.xor, rfl⟩
def sp_law_gate (K : PySem.W.Frag) : Sp := fun vs H Q _ => ∃ n x y : Int, vs = [.int n, .int x, .int y] ∧ 0 ≤ x ∧ 0 ≤ y ∧
  ∀ r p H', (r = .inv x.toNat ∨ ∃ o, r = .bin o x.toNat y.toNat) → Same H H' → RowAt H' p r → Q (.ref p) H'
theorem ok_law_gate (T : Top K mg) : FnOk P w K mg base CX0 1 T.a_law_gate T.d_law_gate ["_law_number", "_law_one", "_law_two"] (sp_law_gate K) := by
  refine T.f_law_gate.ok sc_law_gate (fun vs H Q E h => ?_) (fun cdv A outer s H vs Q E hr h => ?_)
  · obtain ⟨n, x, y, rfl, _⟩ := h
    rfl
  obtain ⟨n, x, y, rfl, h⟩ := h
  refine ⟨_, (pss_cons (ps_if (pt_cmpR op_lt (pe_op op_mod (pv 0) pe_int) pe_int (nomark _)) (pss_one (ps_ret (pe_tup (pa_cons pe_str (pa_cons (pv 1) pa_nil))))) pss_nil)
      (pss_one (ps_ret (pe_tup (pa_cons (pe_ix (ix_listK K) (pe_lst (pa_cons pe_str (pa_cons pe_str (pa_cons pe_str pa_nil)))) (pe_op op_mod (pe_op op_mod (pv 0) pe_int) pe_int) (fun _ _ => rfl)) (pa_cons (pv 1) (pa_cons (pv 2) pa_nil))))))), ?_⟩
  try dsimp only [cxOf, Cx.nox, Cx.wish]
  simp only [L2.start, List.map_cons, List.map_nil, List.length_cons, List.length_nil, Nat.reduceAdd, Nat.reduceSub, List.replicate_succ, List.replicate_zero, List.cons_append, List.nil_append]
  obtain ⟨hx, hy, h⟩ := h
  obtain ⟨a, rfl⟩ := Int.eq_ofNat_of_zero_le hx
  obtain ⟨b, rfl⟩ := Int.eq_ofNat_of_zero_le hy
  walk_at "ws"
  · rename_i hlt p1 H1 n1 s1 e1
    exact h (.inv a) p1 H1 (.inl rfl) s1 e1
  · rename_i hlt p1 H1 n1 s1 e1
    obtain ⟨o, ho⟩ := bop_at (n % 9 % 3) (by omega)
    refine w_ixL (SqL.of e1) ho ?_
    walk_at "ws"
    rename_i p2 H2 n2 s2 e2
    exact h (.bin o a b) p2 H2 (.inr ⟨o, rfl⟩) (s1.trans s2) e2

theorem RowOk.le {N : Str → Prop} {i j : Nat} {r : Row} (h : RowOk N i r) (le : i ≤ j) : RowOk N j r := by
  cases r with
  | fix b => exact h
  | inn n k => exact h
  | inv a => exact Nat.lt_of_lt_of_le (show a < i from h) le
  | bin o a b => exact ⟨Nat.lt_of_lt_of_le h.1 le, Nat.lt_of_lt_of_le h.2 le⟩
  | lat a => exact Nat.lt_of_lt_of_le (show a < i from h) le
theorem RowOk.turn {N : Str → Prop} {i : Nat} {r : Row} (h : RowOk N i r) : RowOk N i (turnR r) := by
  cases r with
  | bin o a b => exact ⟨h.2, h.1⟩
  | _ => exact h
theorem noLat_turn {r : Row} (h : noLat r) : noLat (turnR r) := by
  cases r with
  | _ => exact h
theorem row_at {ps : List Addr} {i : Nat} (h : i < ps.length) : atI (ps.map V.ref) (i : Int) = some (.ref ps[i]) := atI_nat (by rw [List.getElem?_map, List.getElem?_eq_getElem h]; rfl)
def sp_law_rows (K : PySem.W.Frag) : Sp := fun vs H Q _ => ∃ (a c : Addr) (xs : List Int) (is : List Row) (near : Int) (late : Bool) (nm : List Str), vs = [.ref a, .ref c, .int near, .bl late] ∧ SqL K H a (xs.map V.int) ∧ (∀ x ∈ xs, Drawn x) ∧ xs.length ≤ 100 ∧
  RowsL K H c is ∧ (∀ r ∈ is, inRow nm r) ∧ (1 ≤ is.length ∧ is.length ≤ 1000) ∧ (near = 0 ∨ near = 1) ∧
  ∀ (rs : List Row) p H', rs.length = xs.length → RowsOk (· ∈ nm) rs → (late = false → NoLats rs) → H p = none → Same H H' → RowsM H' p rs → Q (.ref p) H'
theorem ok_law_rows (T : Top K mg) : FnOk P w K mg base CX0 2 T.a_law_rows T.d_law_rows ["_law_numbers_here", "_law_ins_here", "_law_near", "_law_late"] (sp_law_rows K) := by
  refine T.f_law_rows.ok sc_law_rows (fun vs H Q E h => ?_) (fun cdv A outer s H vs Q E hr h => ?_)
  · obtain ⟨a, c, xs, is, near, late, nm, rfl, _⟩ := h
    rfl
  obtain ⟨a, c, xs, is, near, late, nm, rfl, h⟩ := h
  refine ⟨_, (pss_cons (ps_set (i := 4) sc_law_rows.nd rfl (.inl rfl) (pe_lst pa_nil))
      (pss_cons (ps_for PassesOwn.never rfl (pi_list (pv 0)) (pg_name (i := 5) sc_law_rows.nd rfl (.inl rfl))
      (pss_cons (ps_set (i := 6) sc_law_rows.nd rfl (.inl rfl) (pe_callB (c_lenK K) (by rfl) T.z_len PySem.boot_len (pa_cons (pv 4) pa_nil)))
      (pss_cons (ps_set (i := 7) sc_law_rows.nd rfl (.inl rfl) (pe_op op_fdiv (pv 5) pe_int))
      (pss_one (ps_if (PW.pt (pw_or (pt_cmpR op_lt (pv 6) pe_int (nomark _)) (pw_or1 (pt_cmpR op_eq (pe_op op_mod (pv 5) pe_int) pe_int (nomark _))))) (pss_one (ps_expr (pe_bm PySem.F.plainAttrs_list PySem.F.slot_list_append PySem.F.type_list_append mt_append (pv 4) (pa_cons (pe_ix (ix_listK K) (pv 1) (pe_op op_mod (pv 7) (pe_callB (c_lenK K) (by rfl) T.z_len PySem.boot_len (pa_cons (pv 1) pa_nil))) (fun _ _ => rfl)) pa_nil)))) (pss_one (ps_if (PW.pt (pw_and (pt_cmpR op_eq (pe_op op_mod (pv 5) pe_int) pe_int (nomark _)) (pw_and1 (pt_cmpR op_gt (pe_op op_mod (pv 7) pe_int) pe_int (nomark _))))) (pss_one (ps_expr (pe_bm PySem.F.plainAttrs_list PySem.F.slot_list_append PySem.F.type_list_append mt_append (pv 4) (pa_cons (pe_tup (pa_cons pe_str (pa_cons (pe_op op_mod (pe_op op_fdiv (pv 7) pe_int) pe_int) pa_nil))) pa_nil)))) (pss_one (ps_if (PW.pt (pw_and (pt_cmpR op_eq (pe_op op_mod (pv 5) pe_int) pe_int (nomark _)) (pw_and1 (pt_val (pv 3))))) (pss_one (ps_expr (pe_bm PySem.F.plainAttrs_list PySem.F.slot_list_append PySem.F.type_list_append mt_append (pv 4) (pa_cons (pe_tup (pa_cons pe_str (pa_cons (pe_op op_mod (pe_op op_fdiv (pv 7) pe_int) (pv 6)) pa_nil))) pa_nil)))) (pss_one (ps_if (pt_cmpR op_eq (pe_op op_mod (pv 5) pe_int) pe_int (nomark _)) (pss_one (ps_expr (pe_bm PySem.F.plainAttrs_list PySem.F.slot_list_append PySem.F.type_list_append mt_append (pv 4) (pa_cons (pe_call (ok_law_turned T) (hr.mono (by decide)) (by rfl) T.g_law_turned T.f_law_turned.kp T.b_law_turned .nil pass0 (pa_cons (pe_ix (ix_listK K) (pv 4) (pe_op op_mod (pe_op op_fdiv (pv 7) pe_int) (pv 6)) (fun _ _ => rfl)) pa_nil)) pa_nil)))) (pss_cons (ps_set (i := 8) sc_law_rows.nd rfl (.inl rfl) (pe_ix (ix_listK K) (pe_lst (pa_cons (pv 6) (pa_cons (pe_callB (c_min2 rfl) (by rfl) T.z_min (by decide +kernel) (pa_cons (pv 6) (pa_cons pe_int pa_nil))) pa_nil))) (pv 2) (fun _ _ => rfl)))
      (pss_one (ps_expr (pe_bm PySem.F.plainAttrs_list PySem.F.slot_list_append PySem.F.type_list_append mt_append (pv 4) (pa_cons (pe_call (ok_law_gate T) (hr.mono (by decide)) (by rfl) T.g_law_gate T.f_law_gate.kp T.b_law_gate .nil pass0 (pa_cons (pv 5) (pa_cons (pe_op op_sub (pe_op op_sub (pv 6) pe_int) (pe_op op_mod (pe_op op_fdiv (pv 5) pe_int) (pv 8))) (pa_cons (pe_op op_sub (pe_op op_sub (pv 6) pe_int) (pe_op op_mod (pv 7) (pv 8))) pa_nil)))) pa_nil))))))))))))))))
      (pss_one (ps_ret (pv 4))))), ?_⟩
  try dsimp only [cxOf, Cx.nox, Cx.wish]
  simp only [L2.start, List.map_cons, List.map_nil, List.length_cons, List.length_nil, Nat.reduceAdd, Nat.reduceSub, List.replicate_succ, List.replicate_zero, List.cons_append, List.nil_append]
  obtain ⟨hS, hx, hxl, ⟨qs, hI, hIA⟩, hin, hil, hnear, h⟩ := h
  walk_at "ws"
  rename_i o H1 n1 s1 e1
  refine for_l (xs.map V.int) (fun i σ' G => ∃ (rs : List Row) (y5 y6 y7 y8 : Option V), σ' = [some (.ref a), some (.ref c), some (.int near), some (.bl late), some (.ref o), y5, y6, y7, y8] ∧ Same H G ∧ RowsM G o rs ∧ rs.length = i ∧ RowsOk (· ∈ nm) rs ∧ (late = false → NoLats rs))
    ⟨[], _, _, _, _, rfl, s1, ⟨[], e1, A2.nil⟩, rfl, fun i r hr => (by cases hr), fun _ r hr => (by cases hr)⟩ (fun i σ' G _ q => ?_) (fun i x σ' G hxi q => ?_) (fun σ' G q => ?_)
  · obtain ⟨rs, y5, y6, y7, y8, rfl, sG, _⟩ := q
    exact sG.seq hS
  · obtain ⟨rs, y5, y6, y7, y8, rfl, sG, ⟨ps, e, hA⟩, hl, hok, hnl⟩ := q
    obtain ⟨x, hx', rfl⟩ := get_map hxi
    have hi := (List.getElem?_eq_some_iff.mp hx').1
    have hd : Drawn x := hx x (List.mem_of_getElem? hx')
    unfold Drawn at hd
    have hpl := hA.1
    have hql := hIA.1
    have hpm : (ps.map V.ref).length = i := by rw [List.length_map]; omega
    have hqm : (qs.map V.ref).length = is.length := by rw [List.length_map]; omega
    have hput : ∀ (r : Row) (p : Addr) (G' : Hp), Same G G' → RowAt G' p r → RowOk (· ∈ nm) i r → (late = false → noLat r) → ∀ z5 z6 z7 z8 : Option V,
        ∃ (rs : List Row) (y5 y6 y7 y8 : Option V), [some (V.ref a), some (.ref c), some (.int near), some (.bl late), some (.ref o), z5, z6, z7, z8] = [some (.ref a), some (.ref c), some (.int near), some (.bl late), some (.ref o), y5, y6, y7, y8] ∧ Same H (upd G' o (.lst (ps.map V.ref ++ [.ref p]))) ∧ RowsM (upd G' o (.lst (ps.map V.ref ++ [.ref p]))) o rs ∧ rs.length = i + 1 ∧ RowsOk (· ∈ nm) rs ∧ (late = false → NoLats rs) := fun r p G' sm hp ho hn z5 z6 z7 z8 =>
      ⟨rs ++ [r], _, _, _, _, rfl, same_mut (sG.trans sm) n1, RowsM.push (sm _ _ e) (hA.mono fun _ _ e => sm _ _ e) hp, by rw [List.length_append, hl]; rfl, hok.snoc (by rw [hl]; exact ho), fun z => (hnl z).snoc (hn z)⟩
    have hfetch : ∀ z : Int, 0 ≤ z ∧ z < is.length → ∃ (q : Addr) (r : Row), atI (qs.map V.ref) z = some (.ref q) ∧ RowAt G q r ∧ inRow nm r := fun z hz => by
      obtain ⟨n, rfl⟩ := Int.eq_ofNat_of_zero_le hz.1
      have hn : n < qs.length := by omega
      obtain ⟨r, hr1, hr2⟩ := hIA.get (List.getElem?_eq_getElem hn)
      exact ⟨qs[n], r, row_at hn, sG _ _ hr2, hin r (List.mem_of_getElem? hr1)⟩
    have hinok : ∀ r, inRow nm r → RowOk (· ∈ nm) i r ∧ noLat r := fun r hr => by
      obtain ⟨x, k, rfl, h1, h2⟩ := hr
      exact ⟨⟨h1, h2⟩, True.intro⟩
    walk_at "ws"
    · obtain ⟨q, r, f1, f2, f3⟩ := hfetch (x / 576 % ((qs.map V.ref).length : Int)) (by rw [hqm]; exact ⟨Int.emod_nonneg _ (by omega), Int.emod_lt_of_pos _ (by omega)⟩)
      refine w_ixL (sG.seq hI) f1 ?_
      walk_at "ws"
      exact hput r q G (Same.refl _) f2 (hinok r f3).1 (fun _ => (hinok r f3).2) _ _ _ _
    · obtain ⟨q, r, f1, f2, f3⟩ := hfetch (x / 576 % ((qs.map V.ref).length : Int)) (by rw [hqm]; exact ⟨Int.emod_nonneg _ (by omega), Int.emod_lt_of_pos _ (by omega)⟩)
      refine w_ixL (sG.seq hI) f1 ?_
      walk_at "ws"
      exact hput r q G (Same.refl _) f2 (hinok r f3).1 (fun _ => (hinok r f3).2) _ _ _ _
    · rename_i p2 H2 n2 s2 e2
      exact hput (.fix (x / 576 / 3 % 2)) p2 H2 s2 e2 (by show _ ∨ _; omega) (fun _ => True.intro) _ _ _ _
    · rename_i hlate hx9 p2 H2 n2 s2 e2
      have w0 : 0 ≤ x / 576 / 3 % ((ps.map V.ref).length : Int) := Int.emod_nonneg _ (by omega)
      have w1 : x / 576 / 3 % ((ps.map V.ref).length : Int) < ((ps.map V.ref).length : Int) := Int.emod_lt_of_pos _ (by omega)
      generalize x / 576 / 3 % ((ps.map V.ref).length : Int) = z at *
      obtain ⟨zn, rfl⟩ := Int.eq_ofNat_of_zero_le w0
      refine hput (.lat zn) p2 H2 s2 e2 (show zn < i by omega) (fun z => ?_) _ _ _ _
      simp_all
    · have w0 : 0 ≤ x / 576 / 3 % ((ps.map V.ref).length : Int) := Int.emod_nonneg _ (by omega)
      have w1 : x / 576 / 3 % ((ps.map V.ref).length : Int) < ((ps.map V.ref).length : Int) := Int.emod_lt_of_pos _ (by omega)
      generalize x / 576 / 3 % ((ps.map V.ref).length : Int) = z at *
      obtain ⟨zn, rfl⟩ := Int.eq_ofNat_of_zero_le w0
      have hzn : zn < ps.length := by omega
      obtain ⟨r, hr1, hr2⟩ := hA.get (List.getElem?_eq_getElem hzn)
      refine w_ixL (SqL.of e) (row_at hzn) ?_
      walk_at "ws"
      refine ⟨_, r, rfl, hr2, fun q G2 s2 e2 => ?_⟩
      walk_at "ws"
      have hr3 := hok zn r hr1
      exact hput (turnR r) q G2 s2 e2 (hr3.le (by omega)).turn (fun z => noLat_turn (hnl z r (List.mem_of_getElem? hr1))) _ _ _ _
    · rename_i p2 H2 n2 s2 e2
      have hr0 : ∃ rc : Int, atI [V.int ((ps.map V.ref).length : Int), V.int (if 3 < ((ps.map V.ref).length : Int) then 3 else ((ps.map V.ref).length : Int))] near = some (.int rc) ∧ 1 ≤ rc ∧ rc ≤ i := by
        rcases hnear with rfl | rfl
        · exact ⟨_, rfl, by omega, by omega⟩
        · refine ⟨_, rfl, ?_, ?_⟩ <;> split <;> omega
      obtain ⟨rc, g1, g2, g3⟩ := hr0
      refine w_ixL (SqL.of e2) g1 ?_
      walk_at "ws"
      have m1 : 0 ≤ x / 9 % rc := Int.emod_nonneg _ (by omega)
      have m2 : x / 9 % rc < rc := Int.emod_lt_of_pos _ (by omega)
      have m3 : 0 ≤ x / 576 % rc := Int.emod_nonneg _ (by omega)
      have m4 : x / 576 % rc < rc := Int.emod_lt_of_pos _ (by omega)
      refine ⟨_, _, _, rfl, by omega, by omega, fun r q G2 hr3 s3 e3 => ?_⟩
      walk_at "ws"
      refine hput r q G2 (s2.trans s3) e3 ?_ (fun _ => ?_) _ _ _ _
      · rcases hr3 with rfl | ⟨o', rfl⟩
        · show (_ : Nat) < _
          omega
        · exact ⟨by omega, by omega⟩
      · rcases hr3 with rfl | ⟨o', rfl⟩ <;> exact True.intro
  · obtain ⟨rs, y5, y6, y7, y8, rfl, sG, hM, hl, hok, hnl⟩ := q
    walk_at "ws"
    exact h rs o G (by rw [hl, List.length_map]) hok hnl n1 sG hM

theorem name_str {n : Str} (h : NameOk n) : PyData.strOk n = true := by
  show (n.cps.all fun x => decide (x < 0x110000)) = true
  rw [← Array.all_toList, List.all_eq_true]
  intro c hc
  have := h.2 c hc
  unfold letter at this
  exact decide_eq_true (by omega)
theorem rows_named {nm : List Str} {rs : List Row} (hn : ∀ x ∈ nm, NameOk x) (h : RowsOk (· ∈ nm) rs) : ∀ r ∈ rs, NmOk r := by
  intro r hr
  obtain ⟨i, hi⟩ := List.mem_iff_getElem?.mp hr
  have ok := h i r hi
  cases r with
  | inn n k => exact name_str (hn _ ok.1)
  | _ => exact True.intro

def sp_beat_bit (K : PySem.W.Frag) : Sp := fun vs H Q _ => ∃ (p b d : Addr) (bv : V) (r : Row) (bs prev : List Int) (ws : List (Str × Int)) (N : Str → Prop) (n : Nat), vs = [.ref p, .ref b, .ref d, bv] ∧ RowAt H p r ∧ SqL K H b (bs.map V.int) ∧ H d = some (.dK (wkv ws)) ∧
  RowOk N bs.length r ∧ Has N ws ∧ All01 bs ∧ Before H n prev bv ∧ bs.length < n ∧ Q (.int (beatI ws prev bs r)) H
theorem ok_beat_bit (T : Top K mg) : FnOk P w K mg base CX0 2 T.a_beat_bit T.d_beat_bit ["row", "bits", "words", "before"] (sp_beat_bit K) := by
  refine T.f_beat_bit.ok sc_beat_bit (fun vs H Q E h => ?_) (fun cdv A outer s H vs Q E hr h => ?_)
  · obtain ⟨p, b, d, bv, r, bs, prev, ws, N, n, rfl, _⟩ := h
    rfl
  obtain ⟨p, b, d, bv, r, bs, prev, ws, N, n, rfl, h⟩ := h
  refine ⟨_, (pss_cons (ps_if (pt_cmpR op_ne (pe_ix (ix_tupK K) (pv 0) pe_int (fun _ _ => rfl)) pe_str (nomark _)) (pss_one (ps_ret (pe_call (ok_gate_bit T) (hr.mono (by decide)) (by rfl) T.g_gate_bit T.f_gate_bit.kp T.b_gate_bit .nil pass0 (pa_cons (pv 0) (pa_cons (pv 1) (pa_cons (pv 2) pa_nil)))))) pss_nil)
      (pss_cons (ps_if (pt_cmpR op_isNo (pv 3) pe_non (nomark _)) (pss_one (ps_ret pe_int)) pss_nil)
      (pss_one (ps_ret (pe_ix (ix_listK K) (pv 3) (pe_ix (ix_tupK K) (pv 0) pe_int (fun _ _ => rfl)) (fun _ _ => rfl)))))), ?_⟩
  try dsimp only [cxOf, Cx.nox, Cx.wish]
  simp only [L2.start, List.map_cons, List.map_nil, List.length_cons, List.length_nil, Nat.reduceAdd, Nat.reduceSub, List.replicate_succ, List.replicate_zero, List.cons_append, List.nil_append]
  obtain ⟨hp, hb, hd, ok, has, h01, hbv, hn, h⟩ := h
  have hp' : RowAt H p r := hp
  unfold RowAt at hp
  cases r with
  | lat a =>
    have ha : a < bs.length := ok
    rcases hbv with ⟨rfl, rfl⟩ | ⟨q, rfl, hq, hl⟩
    · walk_at "ws"
      exact h
    · walk_at "ws"
      refine w_ixL (SqL.of hq) (bit_get (by omega)) ?_
      walk_at "ws"
      exact h
  | bin o x y => cases o <;> (walk_at "ws"; exact ⟨p, b, d, _, bs, ws, N, rfl, hp', hb, hd, ok, True.intro, has, h01, by walk_at "ws"; exact h⟩)
  | _ => walk_at "ws"; exact ⟨p, b, d, _, bs, ws, N, rfl, hp', hb, hd, ok, True.intro, has, h01, by walk_at "ws"; exact h⟩

/-- what beats gives: a new list of new lists -/
def Told (H : Hp) (H' : Hp) (p : Addr) (bss : List (List Int)) : Prop := ∃ qs : List Addr, H p = none ∧ (∀ q ∈ qs, H q = none ∧ q ≠ p) ∧ Same H H' ∧ H' p = some (.lst (qs.map V.ref)) ∧ A2 (IntsAt H') qs bss
theorem beats_len (rs : List Row) (wss : List (List (Str × Int))) : (beatsL rs wss).length = wss.length := by
  have key : ∀ (wss : List (List (Str × Int))) (acc : List (List Int)), (wss.foldl (fun acc ws => acc ++ [beatL rs (acc.getLastD []) ws]) acc).length = acc.length + wss.length := by
    intro wss
    induction wss with
    | nil => intro acc; rfl
    | cons r rs ih =>
      intro acc
      rw [List.foldl_cons, ih, List.length_append, List.length_singleton, List.length_cons]
      omega
  unfold beatsL
  rw [key]
  exact Nat.zero_add _
theorem lastD_snoc {α : Type} (xs : List α) (x d : α) : (xs ++ [x]).getLastD d = x := by simp
def sp_beats (K : PySem.W.Frag) : Sp := fun vs H Q _ => ∃ (a d : Addr) (rs : List Row) (wss : List (List (Str × Int))) (N : Str → Prop), vs = [.ref a, .ref d] ∧ RowsL K H a rs ∧ DictsL K H d wss ∧ RowsOk N rs ∧ rs.length ≤ 60000 ∧ wss.length ≤ 60000 ∧ (∀ ws ∈ wss, Has N ws) ∧
  ∀ p H', Told H H' p (beatsL rs wss) → Q (.ref p) H'
theorem ok_beats (T : Top K mg) : FnOk P w K mg base CX0 3 T.a_beats T.d_beats ["rows", "some"] (sp_beats K) := by
  refine T.f_beats.ok sc_beats (fun vs H Q E h => ?_) (fun cdv A outer s H vs Q E hr h => ?_)
  · obtain ⟨a, d, rs, wss, N, rfl, _⟩ := h
    rfl
  obtain ⟨a, d, rs, wss, N, rfl, h⟩ := h
  refine ⟨_, (pss_cons (ps_set (i := 2) sc_beats.nd rfl (.inl rfl) (pe_lst pa_nil))
      (pss_cons (ps_set (i := 3) sc_beats.nd rfl (.inl rfl) pe_non)
      (pss_cons (ps_for PassesOwn.never rfl (pi_list (pv 1)) (pg_name (i := 4) sc_beats.nd rfl (.inl rfl))
      (pss_cons (ps_set (i := 5) sc_beats.nd rfl (.inl rfl) (pe_lst pa_nil))
      (pss_cons (ps_for PassesOwn.never rfl (pi_list (pv 0)) (pg_name (i := 6) sc_beats.nd rfl (.inl rfl))
      (pss_one (ps_expr (pe_bm PySem.F.plainAttrs_list PySem.F.slot_list_append PySem.F.type_list_append mt_append (pv 5) (pa_cons (pe_call (ok_beat_bit T) (hr.mono (by decide)) (by rfl) T.g_beat_bit T.f_beat_bit.kp T.b_beat_bit .nil pass0 (pa_cons (pv 6) (pa_cons (pv 5) (pa_cons (pv 4) (pa_cons (pv 3) pa_nil))))) pa_nil)))))
      (pss_cons (ps_expr (pe_bm PySem.F.plainAttrs_list PySem.F.slot_list_append PySem.F.type_list_append mt_append (pv 2) (pa_cons (pv 5) pa_nil)))
      (pss_one (ps_set (i := 3) sc_beats.nd rfl (.inl rfl) (pv 5)))))))
      (pss_one (ps_ret (pv 2)))))), ?_⟩
  try dsimp only [cxOf, Cx.nox, Cx.wish]
  simp only [L2.start, List.map_cons, List.map_nil, List.length_cons, List.length_nil, Nat.reduceAdd, Nat.reduceSub, List.replicate_succ, List.replicate_zero, List.cons_append, List.nil_append]
  obtain ⟨⟨ps, hS, hA⟩, ⟨ds, hD, hB⟩, ok, hlen, hwl, has, h⟩ := h
  have hpl := hA.1
  have hdl := hB.1
  walk_at "ws"
  rename_i o H1 n1 s1 e1
  refine for_l (ds.map V.ref) (fun t σ' G => ∃ (qs : List Addr) (bv : V) (prev : List Int) (y4 y5 y6 : Option V), σ' = [some (.ref a), some (.ref d), some (.ref o), some bv, y4, y5, y6] ∧ Same H G ∧ G o = some (.lst (qs.map V.ref)) ∧ (∀ q ∈ qs, H q = none ∧ q ≠ o) ∧ A2 (IntsAt G) qs (beatsL rs (wss.take t)) ∧ Before G rs.length prev bv ∧ All01 prev ∧ prev = (beatsL rs (wss.take t)).getLastD [])
    ⟨[], .non, [], _, _, _, rfl, s1, e1, fun q hq => (by cases hq), A2.nil, .inl ⟨rfl, rfl⟩, fun x hx => (by cases hx), rfl⟩ (fun t σ' G _ q => ?_) (fun t x σ' G hx q => ?_) (fun σ' G q => ?_)
  · obtain ⟨qs, bv, prev, y4, y5, y6, rfl, sG, _⟩ := q
    exact sG.seq hD
  · obtain ⟨qs, bv, prev, y4, y5, y6, rfl, sG, eo, hfr, hQ, hbv, h01, hprev⟩ := q
    obtain ⟨wd, hwd, rfl⟩ := get_map hx
    obtain ⟨ws, hws, hwat⟩ := hB.get hwd
    have hti := (List.getElem?_eq_some_iff.mp hws).1
    have hasw := has ws (List.mem_of_getElem? hws)
    have hql := hQ.1
    rw [beats_len, List.length_take] at hql
    walk_at "ws"
    rename_i b G1 nb sb eb
    refine for_l (ps.map V.ref) (fun i σ2 G2 => ∃ y6 : Option V, σ2 = [some (.ref a), some (.ref d), some (.ref o), some bv, some (.ref wd), some (.ref b), y6] ∧ Same G G2 ∧ IntsAt G2 b (runL (beatI ws prev) (rs.take i))) ⟨_, rfl, sb, eb⟩ (fun i σ2 G2 _ k => ?_) (fun i x2 σ2 G2 hx2 k => ?_) (fun σ2 G2 k => ?_)
    · obtain ⟨z6, rfl, s2, _⟩ := k
      exact (sG.trans s2).seq hS
    · obtain ⟨z6, rfl, s2, eb2⟩ := k
      obtain ⟨p, hp, rfl⟩ := get_map hx2
      obtain ⟨r, hr', hpr⟩ := hA.get hp
      have hi := (List.getElem?_eq_some_iff.mp hr').1
      have hl : (runL (beatI ws prev) (rs.take i)).length = i := by rw [runL_len, List.length_take]; omega
      have eb2' : G2 b = some (.lst ((runL (beatI ws prev) (rs.take i)).map V.int)) := eb2
      walk_at "ws"
      refine ⟨p, b, wd, bv, r, _, prev, ws, N, rs.length, rfl, s2 _ _ (sG _ _ hpr), SqL.of eb2', s2 _ _ (sG _ _ hwat), by rw [hl]; exact ok i r hr', hasw, beatL_01 ws h01 ok i, hbv.same s2, by omega, ?_⟩
      walk_at "ws"
      refine ⟨_, rfl, same_mut s2 nb, ?_⟩
      unfold IntsAt
      rw [upd_same, take_snoc hr', runL_snoc, List.map_append]
      rfl
    · obtain ⟨z6, rfl, s2, eb2⟩ := k
      rw [List.length_map, hpl, List.take_of_length_le (Nat.le_refl _)] at eb2
      have eo2 := s2 _ _ eo
      walk_at "ws"
      have nob : b ≠ o := (ne_of_none eo nb).symm
      have eb3 : IntsAt (upd G2 o (.lst (qs.map V.ref ++ [.ref b]))) b (beatL rs prev ws) := by
        unfold IntsAt
        rw [upd_ne nob]
        exact eb2
      have hall := beatL_01 ws h01 ok rs.length
      rw [List.take_of_length_le (Nat.le_refl _)] at hall
      refine ⟨qs ++ [b], .ref b, beatL rs prev ws, _, _, _, rfl, same_mut (sG.trans s2) n1, by rw [upd_same, List.map_append]; rfl, fun q hq => ?_, ?_, .inr ⟨b, rfl, eb3, runL_len ..⟩, hall, ?_⟩
      · rcases List.mem_append.mp hq with e | e
        · exact hfr q e
        · rw [List.mem_singleton.mp e]
          exact ⟨sG.free nb, nob⟩
      · rw [take_snoc hws, beatsL_snoc, ← hprev]
        refine (A2.mono2 hQ fun q bs hq e => ?_).snoc eb3
        unfold IntsAt
        rw [upd_ne (hfr q hq).2]
        exact s2 _ _ e
      · rw [take_snoc hws, beatsL_snoc, ← hprev, lastD_snoc]
  · obtain ⟨qs, bv, prev, y4, y5, y6, rfl, sG, eo, hfr, hQ, _⟩ := q
    rw [List.length_map, hdl, List.take_of_length_le (Nat.le_refl _)] at hQ
    walk_at "ws"
    exact h o G ⟨qs, n1, hfr, sG, eo, hQ⟩

theorem tot_and {x y : Int} (hx : is01 x) (hy : is01 y) : (x + y) / 2 = bopI .and x y := by
  rcases hx with rfl | rfl <;> rcases hy with rfl | rfl <;> decide
theorem tot_or {x y : Int} (hx : is01 x) (hy : is01 y) : (if 1 < x + y then 1 else x + y) = bopI .or x y := by
  rcases hx with rfl | rfl <;> rcases hy with rfl | rfl <;> decide
def sp_law_bit (K : PySem.W.Frag) : Sp := fun vs H Q _ => ∃ (p b d : Addr) (r : Row) (bs : List Int) (ws : List (Str × Int)) (N : Str → Prop), vs = [.ref p, .ref b, .ref d] ∧ RowAt H p r ∧ SqL K H b (bs.map V.int) ∧ H d = some (.dK (wkv ws)) ∧
  RowOk N bs.length r ∧ noLat r ∧ Has N ws ∧ All01 bs ∧ Q (.int (gateI ws bs r)) H
theorem ok_law_bit (T : Top K mg) : FnOk P w K mg base CX0 1 T.a_law_bit T.d_law_bit ["_law_row", "_law_bits_here", "_law_words"] (sp_law_bit K) := by
  refine T.f_law_bit.ok sc_law_bit (fun vs H Q E h => ?_) (fun cdv A outer s H vs Q E hr h => ?_)
  · obtain ⟨p, b, d, r, bs, ws, N, rfl, _⟩ := h
    rfl
  obtain ⟨p, b, d, r, bs, ws, N, rfl, h⟩ := h
  refine ⟨_, (pss_cons (ps_if (pt_cmpR op_eq (pe_ix (ix_tupK K) (pv 0) pe_int (fun _ _ => rfl)) pe_str (nomark _)) (pss_one (ps_ret (pe_ix (ix_tupK K) (pv 0) pe_int (fun _ _ => rfl)))) pss_nil)
      (pss_cons (ps_if (pt_cmpR op_eq (pe_ix (ix_tupK K) (pv 0) pe_int (fun _ _ => rfl)) pe_str (nomark _)) (pss_one (ps_ret (pe_op op_mod (pe_op op_divP (pe_dget (hu_of hr) (pv 2) (pe_ix (ix_tupK K) (pv 0) pe_int (fun _ _ => rfl)) (fun _ _ => rfl)) (pe_op op_shlK pe_int (pe_ix (ix_tupK K) (pv 0) pe_int (fun _ _ => rfl)))) pe_int))) pss_nil)
      (pss_cons (ps_if (pt_cmpR op_eq (pe_ix (ix_tupK K) (pv 0) pe_int (fun _ _ => rfl)) pe_str (nomark _)) (pss_one (ps_ret (pe_op op_sub pe_int (pe_ix (ix_listK K) (pv 1) (pe_ix (ix_tupK K) (pv 0) pe_int (fun _ _ => rfl)) (fun _ _ => rfl))))) pss_nil)
      (pss_cons (ps_set (i := 3) sc_law_bit.nd rfl (.inl rfl) (pe_op op_add (pe_ix (ix_listK K) (pv 1) (pe_ix (ix_tupK K) (pv 0) pe_int (fun _ _ => rfl)) (fun _ _ => rfl)) (pe_ix (ix_listK K) (pv 1) (pe_ix (ix_tupK K) (pv 0) pe_int (fun _ _ => rfl)) (fun _ _ => rfl))))
      (pss_cons (ps_if (pt_cmpR op_eq (pe_ix (ix_tupK K) (pv 0) pe_int (fun _ _ => rfl)) pe_str (nomark _)) (pss_one (ps_ret (pe_op op_fdiv (pv 3) pe_int))) pss_nil)
      (pss_cons (ps_if (pt_cmpR op_eq (pe_ix (ix_tupK K) (pv 0) pe_int (fun _ _ => rfl)) pe_str (nomark _)) (pss_one (ps_ret (pe_callB (c_min2 rfl) (by rfl) T.z_min (by decide +kernel) (pa_cons (pv 3) (pa_cons pe_int pa_nil))))) pss_nil)
      (pss_one (ps_ret (pe_op op_mod (pv 3) pe_int))))))))), ?_⟩
  try dsimp only [cxOf, Cx.nox, Cx.wish]
  simp only [L2.start, List.map_cons, List.map_nil, List.length_cons, List.length_nil, Nat.reduceAdd, Nat.reduceSub, List.replicate_succ, List.replicate_zero, List.cons_append, List.nil_append]
  obtain ⟨hp, hb, hd, ok, nl, has, h01, h⟩ := h
  unfold RowAt at hp
  cases r with
  | fix x =>
    walk_at "ws"
    exact h
  | inn n k =>
    obtain ⟨v, hv⟩ := has n ok.1
    have hk : k < 64 := ok.2
    have hv2 : valV (wkv ws) (Sum.inr n) = some (.int v) := by rw [valV_wkv, hv]; rfl
    have e : gateI ws bs (.inn n k) = v / 2 ^ k % 2 := by
      show (lookW ws n).getD 0 / 2 ^ k % 2 = v / 2 ^ k % 2
      rw [hv]
      rfl
    rw [e] at h
    walk_at "ws"
    exact h
  | inv a =>
    walk_at "ws"
    refine w_ixL hb (bit_get ok) ?_
    walk_at "ws"
    exact h
  | bin o x y =>
    have e1 := bit_get ok.1
    have e2 := bit_get ok.2
    have h1 := all01_get h01 x
    have h2 := all01_get h01 y
    cases o with
    | and =>
      walk_at "ws"
      refine w_ixL hb e1 ?_
      walk_at "ws"
      refine w_ixL hb e2 ?_
      walk_at "ws"
      rw [tot_and h1 h2]
      exact h
    | or =>
      walk_at "ws"
      refine w_ixL hb e1 ?_
      walk_at "ws"
      refine w_ixL hb e2 ?_
      walk_at "ws"
      have e := tot_or h1 h2
      rw [e]
      exact h
    | xor =>
      walk_at "ws"
      refine w_ixL hb e1 ?_
      walk_at "ws"
      refine w_ixL hb e2 ?_
      walk_at "ws"
      exact h
  | lat a => exact nl.elim

def sp_law_beats (K : PySem.W.Frag) : Sp := fun vs H Q _ => ∃ (a d : Addr) (rs : List Row) (wss : List (List (Str × Int))) (N : Str → Prop), vs = [.ref a, .ref d] ∧ RowsL K H a rs ∧ DictsL K H d wss ∧ RowsOk N rs ∧ rs.length ≤ 60000 ∧ wss.length ≤ 60000 ∧ (∀ ws ∈ wss, Has N ws) ∧
  ∀ p H', Told H H' p (beatsL rs wss) → Q (.ref p) H'
theorem beatsL_take {rs : List Row} {wss : List (List (Str × Int))} {t : Nat} (h : t + 1 ≤ wss.length) : (beatsL rs (wss.take (t + 1))).getLastD [] = beatL rs ((beatsL rs (wss.take t)).getLastD []) wss[t] := by
  have e : wss[t]? = some wss[t] := List.getElem?_eq_getElem (by omega)
  rw [take_snoc e, beatsL_snoc, lastD_snoc]
theorem ok_law_beats (T : Top K mg) : FnOk P w K mg base CX0 2 T.a_law_beats T.d_law_beats ["_law_rows_here", "_law_some_here"] (sp_law_beats K) := by
  refine T.f_law_beats.ok sc_law_beats (fun vs H Q E h => ?_) (fun cdv A outer s H vs Q E hr h => ?_)
  · obtain ⟨a, d, rs, wss, N, rfl, _⟩ := h
    rfl
  obtain ⟨a, d, rs, wss, N, rfl, h⟩ := h
  refine ⟨_, (pss_cons (ps_set (i := 2) sc_law_beats.nd rfl (.inl rfl) (pe_lst pa_nil))
      (pss_cons (ps_for PassesOwn.never rfl (pi_range1 (by rfl) T.z_range (pa_cons (pe_callB (c_lenK K) (by rfl) T.z_len PySem.boot_len (pa_cons (pv 1) pa_nil)) pa_nil)) (pg_name (i := 3) sc_law_beats.nd rfl (.inl rfl))
      (pss_cons (ps_set (i := 4) sc_law_beats.nd rfl (.inl rfl) (pe_lst pa_nil))
      (pss_cons (ps_for PassesOwn.never rfl (pi_list (pv 0)) (pg_name (i := 5) sc_law_beats.nd rfl (.inl rfl))
      (pss_one (ps_if (pt_cmpR op_ne (pe_ix (ix_tupK K) (pv 5) pe_int (fun _ _ => rfl)) pe_str (nomark _)) (pss_one (ps_expr (pe_bm PySem.F.plainAttrs_list PySem.F.slot_list_append PySem.F.type_list_append mt_append (pv 4) (pa_cons (pe_call (ok_law_bit T) (hr.mono (by decide)) (by rfl) T.g_law_bit T.f_law_bit.kp T.b_law_bit .nil pass0 (pa_cons (pv 5) (pa_cons (pv 4) (pa_cons (pe_ix (ix_listK K) (pv 1) (pv 3) (fun _ _ => rfl)) pa_nil)))) pa_nil)))) (pss_one (ps_if (pt_cmpR op_eq (pv 3) pe_int (nomark _)) (pss_one (ps_expr (pe_bm PySem.F.plainAttrs_list PySem.F.slot_list_append PySem.F.type_list_append mt_append (pv 4) (pa_cons pe_int pa_nil)))) (pss_one (ps_expr (pe_bm PySem.F.plainAttrs_list PySem.F.slot_list_append PySem.F.type_list_append mt_append (pv 4) (pa_cons (pe_ix (ix_listK K) (pe_ix (ix_listK K) (pv 2) (pe_op op_sub (pv 3) pe_int) (fun _ _ => rfl)) (pe_ix (ix_tupK K) (pv 5) pe_int (fun _ _ => rfl)) (fun _ _ => rfl)) pa_nil)))))))))
      (pss_one (ps_expr (pe_bm PySem.F.plainAttrs_list PySem.F.slot_list_append PySem.F.type_list_append mt_append (pv 2) (pa_cons (pv 4) pa_nil)))))))
      (pss_one (ps_ret (pv 2))))), ?_⟩
  try dsimp only [cxOf, Cx.nox, Cx.wish]
  simp only [L2.start, List.map_cons, List.map_nil, List.length_cons, List.length_nil, Nat.reduceAdd, Nat.reduceSub, List.replicate_succ, List.replicate_zero, List.cons_append, List.nil_append]
  obtain ⟨⟨ps, hS, hA⟩, ⟨ds, hD, hB⟩, ok, hlen, hwl, has, h⟩ := h
  have hpl := hA.1
  have hdl := hB.1
  have hdm : (ds.map V.ref).length = wss.length := by rw [List.length_map]; exact hdl
  walk_at "ws"
  rename_i o H1 n1 s1 e1
  refine for_r (fun t σ' G => ∃ (qs : List Addr) (y3 y4 y5 : Option V), σ' = [some (.ref a), some (.ref d), some (.ref o), y3, y4, y5] ∧ Same H G ∧ G o = some (.lst (qs.map V.ref)) ∧ (∀ q ∈ qs, H q = none ∧ q ≠ o) ∧ A2 (IntsAt G) qs (beatsL rs (wss.take t)) ∧ All01 ((beatsL rs (wss.take t)).getLastD []))
    ⟨[], _, _, _, rfl, s1, e1, fun q hq => (by cases hq), A2.nil, fun x hx => (by cases hx)⟩ (fun t σ' G ht q => ?_) (fun σ' G q => ?_)
  · obtain ⟨qs, y3, y4, y5, rfl, sG, eo, hfr, hQ, h01⟩ := q
    have htw : t < wss.length := by omega
    have htd : t < ds.length := by omega
    obtain ⟨ws, hws, hwat⟩ := hB.get (List.getElem?_eq_getElem htd)
    have hasw := has ws (List.mem_of_getElem? hws)
    have hql := hQ.1
    rw [beats_len, List.length_take] at hql
    walk_at "ws"
    rename_i b G1 nb sb eb
    generalize hprev : (beatsL rs (wss.take t)).getLastD [] = prev at *
    refine for_l (ps.map V.ref) (fun i σ2 G2 => ∃ y5 : Option V, σ2 = [some (.ref a), some (.ref d), some (.ref o), some (.int (t : Int)), some (.ref b), y5] ∧ Same G G2 ∧ IntsAt G2 b (runL (beatI ws prev) (rs.take i))) ⟨_, rfl, sb, eb⟩ (fun i σ2 G2 _ k => ?_) (fun i x2 σ2 G2 hx2 k => ?_) (fun σ2 G2 k => ?_)
    · obtain ⟨z6, rfl, s2, _⟩ := k
      exact (sG.trans s2).seq hS
    · obtain ⟨z6, rfl, s2, eb2⟩ := k
      obtain ⟨p, hp, rfl⟩ := get_map hx2
      obtain ⟨r, hr', hpr⟩ := hA.get hp
      have hi := (List.getElem?_eq_some_iff.mp hr').1
      have hl : (runL (beatI ws prev) (rs.take i)).length = i := by rw [runL_len, List.length_take]; omega
      have eb2' : G2 b = some (.lst ((runL (beatI ws prev) (rs.take i)).map V.int)) := eb2
      have hp2 : RowAt G2 p r := s2 _ _ (sG _ _ hpr)
      have hp3 := hp2
      unfold RowAt at hp3
      have okr := ok i r hr'
      have hfin : ∃ y5 : Option V, [some (V.ref a), some (.ref d), some (.ref o), some (.int (t : Int)), some (.ref b), some (.ref p)] = [some (.ref a), some (.ref d), some (.ref o), some (.int (t : Int)), some (.ref b), y5] ∧ Same G (upd G2 b (.lst ((runL (beatI ws prev) (rs.take i)).map V.int ++ [.int (beatI ws prev (runL (beatI ws prev) (rs.take i)) r)]))) ∧ IntsAt (upd G2 b (.lst ((runL (beatI ws prev) (rs.take i)).map V.int ++ [.int (beatI ws prev (runL (beatI ws prev) (rs.take i)) r)]))) b (runL (beatI ws prev) (rs.take (i + 1))) := by
        refine ⟨_, rfl, same_mut s2 nb, ?_⟩
        unfold IntsAt
        rw [upd_same, take_snoc hr', runL_snoc, List.map_append]
        rfl
      cases r with
      | lat w =>
        have hw : w < i := by rw [← hl]; rw [hl]; exact okr
        walk_at "ws"
        · rename_i h0
          have ht0 : t = 0 := by omega
          subst ht0
          have e0 : prev = [] := by rw [← hprev]; rfl
          subst e0
          exact hfin
        · rename_i h0
          have hq1 : t - 1 < qs.length := by omega
          obtain ⟨bs, hbs1, hbs2⟩ := hQ.get (List.getElem?_eq_getElem hq1)
          have hpb : bs = prev := by
            obtain ⟨t', rfl⟩ : ∃ t', t = t' + 1 := ⟨t - 1, by omega⟩
            have e1 : wss[t']? = some wss[t'] := List.getElem?_eq_getElem (by omega)
            rw [take_snoc e1, beatsL_snoc, Nat.add_sub_cancel] at hbs1
            rw [take_snoc e1, beatsL_snoc, lastD_snoc] at hprev
            rw [List.getElem?_append_right (by rw [beats_len, List.length_take]; omega), beats_len, List.length_take, Nat.min_eq_left (by omega), Nat.sub_self] at hbs1
            cases hbs1
            exact hprev
          subst hpb
          have hbl : bs.length = rs.length := by
            obtain ⟨t', rfl⟩ : ∃ t', t = t' + 1 := ⟨t - 1, by omega⟩
            rw [beatsL_take (by omega)] at hprev
            rw [← hprev]
            exact runL_len ..
          have e1 : atI (qs.map V.ref) ((t : Int) - 1) = some (.ref qs[t - 1]) := by
            rw [show (t : Int) - 1 = ((t - 1 : Nat) : Int) by omega]
            exact row_at hq1
          refine w_ixL (SqL.of (s2 _ _ eo)) e1 ?_
          walk_at "ws"
          refine w_ixL (SqL.of (s2 _ _ hbs2)) (bit_get (by omega)) ?_
          walk_at "ws"
          exact hfin
      | bin q x y =>
        cases q
        all_goals
          walk_at "ws"
          refine w_ixL ((sG.trans s2).seq hD) (row_at htd) ?_
          walk_at "ws"
          refine ⟨p, b, _, _, _, ws, N, rfl, hp2, SqL.of eb2', s2 _ _ (sG _ _ hwat), by rw [hl]; exact okr, True.intro, hasw, beatL_01 ws h01 ok i, ?_⟩
          walk_at "ws"
          exact hfin
      | _ =>
          walk_at "ws"
          refine w_ixL ((sG.trans s2).seq hD) (row_at htd) ?_
          walk_at "ws"
          refine ⟨p, b, _, _, _, ws, N, rfl, hp2, SqL.of eb2', s2 _ _ (sG _ _ hwat), by rw [hl]; exact okr, True.intro, hasw, beatL_01 ws h01 ok i, ?_⟩
          walk_at "ws"
          exact hfin
    · obtain ⟨z6, rfl, s2, eb2⟩ := k
      rw [List.length_map, hpl, List.take_of_length_le (Nat.le_refl _)] at eb2
      have eo2 := s2 _ _ eo
      walk_at "ws"
      have nob : b ≠ o := (ne_of_none eo nb).symm
      have eb3 : IntsAt (upd G2 o (.lst (qs.map V.ref ++ [.ref b]))) b (beatL rs prev ws) := by
        unfold IntsAt
        rw [upd_ne nob]
        exact eb2
      have hall := beatL_01 ws h01 ok rs.length
      rw [List.take_of_length_le (Nat.le_refl _)] at hall
      refine ⟨qs ++ [b], _, _, _, rfl, same_mut (sG.trans s2) n1, by rw [upd_same, List.map_append]; rfl, fun q hq => ?_, ?_, ?_⟩
      · rcases List.mem_append.mp hq with e | e
        · exact hfr q e
        · rw [List.mem_singleton.mp e]
          exact ⟨sG.free nb, nob⟩
      · rw [take_snoc hws, beatsL_snoc, hprev]
        refine (A2.mono2 hQ fun q bs hq e => ?_).snoc eb3
        unfold IntsAt
        rw [upd_ne (hfr q hq).2]
        exact s2 _ _ e
      · rw [take_snoc hws, beatsL_snoc, hprev, lastD_snoc]
        exact hall
  · obtain ⟨qs, y3, y4, y5, rfl, sG, eo, hfr, hQ, _⟩ := q
    rw [hdm, Int.toNat_natCast, List.take_of_length_le (Nat.le_refl _)] at hQ
    walk_at "ws"
    exact h o G ⟨qs, n1, hfr, sG, eo, hQ⟩

def WsOk (nm : List Str) (ws : List (Str × Int)) : Prop := Has (· ∈ nm) ws ∧ (ws.map (·.1)).Nodup ∧ ws.length ≤ 4
/-- a new list of dicts of numbers -/
def sp_law_some (K : PySem.W.Frag) : Sp := fun vs H Q _ => ∃ (a : Addr) (nm : List Str) (c : Int) (m : Nat), vs = [.ref a, .int c, .int (m : Int)] ∧ SqL K H a (nm.map V.str) ∧ nm.length = 4 ∧ Builtin.Int.intBits c ≤ 1048576 ∧ m ≤ 60 ∧
  ∀ (ps : List Addr) (wss : List (List (Str × Int))) p H', wss.length = m → (∀ ws ∈ wss, WsOk nm ws) → H p = none → Same H H' → H' p = some (.lst (ps.map V.ref)) → A2 (DictAt H') ps wss → Q (.ref p) H'
theorem ok_law_some (T : Top K mg) : FnOk P w K mg base CX0 3 T.a_law_some T.d_law_some ["_law_names_here", "_law_cell", "_law_many"] (sp_law_some K) := by
  refine T.f_law_some.ok sc_law_some (fun vs H Q E h => ?_) (fun cdv A outer s H vs Q E hr h => ?_)
  · obtain ⟨a, nm, c, m, rfl, _⟩ := h
    rfl
  obtain ⟨a, nm, c, m, rfl, h⟩ := h
  refine ⟨_, (pss_cons (ps_set (i := 3) sc_law_some.nd rfl (.inl rfl) (pe_lst pa_nil))
      (pss_cons (ps_for PassesOwn.never rfl (pi_range1 (by rfl) T.z_range (pa_cons (pv 2) pa_nil)) (pg_name (i := 4) sc_law_some.nd rfl (.inl rfl))
      (pss_one (ps_if (PW.pt (pw_and (pt_cmpR op_gt (pv 4) pe_int (nomark _)) (pw_and1 (pt_cmpR op_eq (pe_op op_mod (pe_call (ok_law_mixed T) (hr.mono (by decide)) (by rfl) T.g_law_mixed T.f_law_mixed.kp T.b_law_mixed .nil pass0 (pa_cons (pv 1) (pa_cons (pv 4) pa_nil))) pe_int) pe_int (nomark _))))) (pss_one (ps_expr (pe_bm PySem.F.plainAttrs_list PySem.F.slot_list_append PySem.F.type_list_append mt_append (pv 3) (pa_cons (pe_ix (ix_listK K) (pv 3) (pe_op op_sub (pv 4) pe_int) (fun _ _ => rfl)) pa_nil)))) (pss_cons (ps_expr (pe_bm PySem.F.plainAttrs_list PySem.F.slot_list_append PySem.F.type_list_append mt_append (pv 3) (pa_cons pe_dnewK pa_nil)))
      (pss_one (ps_for PassesOwn.never rfl (pi_range1 (by rfl) T.z_range (pa_cons pe_int pa_nil)) (pg_name (i := 5) sc_law_some.nd rfl (.inl rfl))
      (pss_one (ps_dput (hu_of hr) (pe_ix (ix_listK K) (pv 3) (pv 4) (fun _ _ => rfl)) (pe_ix (ix_listK K) (pv 0) (pv 5) (fun _ _ => rfl)) (pe_call (ok_law_great T) (hr.mono (by decide)) (by rfl) T.g_law_great T.f_law_great.kp T.b_law_great .nil pass0 (pa_cons (pe_op op_add (pv 1) (pv 5)) (pa_cons (pe_op op_add (pe_op op_mulI (pv 4) (pv 4)) (pv 5)) pa_nil))) rfl))))))))
      (pss_one (ps_ret (pv 3))))), ?_⟩
  try dsimp only [cxOf, Cx.nox, Cx.wish]
  simp only [L2.start, List.map_cons, List.map_nil, List.length_cons, List.length_nil, Nat.reduceAdd, Nat.reduceSub, List.replicate_succ, List.replicate_zero, List.cons_append, List.nil_append]
  obtain ⟨hS, h4, hc, hm, h⟩ := h
  walk_at "ws"
  rename_i o H1 n1 s1 e1
  refine for_r (fun t σ' G => ∃ (ps : List Addr) (wss : List (List (Str × Int))) (y4 y5 : Option V), σ' = [some (.ref a), some (.int c), some (.int (m : Int)), some (.ref o), y4, y5] ∧ Same H G ∧ G o = some (.lst (ps.map V.ref)) ∧ A2 (DictAt G) ps wss ∧ wss.length = t ∧ ∀ ws ∈ wss, WsOk nm ws)
    ⟨[], [], _, _, rfl, s1, e1, A2.nil, rfl, fun ws hw => (by cases hw)⟩ (fun t σ' G ht q => ?_) (fun σ' G q => ?_)
  · obtain ⟨ps, wss, y4, y5, rfl, sG, eo, hA, hl, hok⟩ := q
    have hpl := hA.1
    have htm : t < m := by omega
    have hpm : (ps.map V.ref).length = t := by rw [List.length_map]; omega
    walk_at "ws"
    · have hq1 : t - 1 < ps.length := by omega
      obtain ⟨ws, hw1, hw2⟩ := hA.get (List.getElem?_eq_getElem hq1)
      have e1 : atI (ps.map V.ref) ((t : Int) - 1) = some (.ref ps[t - 1]) := by
        rw [show (t : Int) - 1 = ((t - 1 : Nat) : Int) by omega]
        exact row_at hq1
      refine w_ixL (SqL.of eo) e1 ?_
      walk_at "ws"
      have hne : ∀ q ∈ ps, q ≠ o := fun q hq z => by
        obtain ⟨k, hk⟩ := List.mem_iff_getElem?.mp hq
        obtain ⟨u, _, hu⟩ := hA.get hk
        unfold DictAt at hu
        rw [z, eo] at hu
        cases hu
      have hA2 : A2 (DictAt (upd G o (.lst (ps.map V.ref ++ [.ref ps[t - 1]])))) ps wss := hA.mono2 fun q u hq e => by
        unfold DictAt
        rw [upd_ne (hne q hq)]
        exact e
      refine ⟨ps ++ [ps[t - 1]], wss ++ [ws], _, _, rfl, same_mut sG n1, by rw [upd_same, List.map_append]; rfl, hA2.snoc ?_, by rw [List.length_append, hl]; rfl, fun u hu => ?_⟩
      · unfold DictAt
        rw [upd_ne (hne _ (List.getElem_mem hq1))]
        exact hw2
      · rcases List.mem_append.mp hu with e | e
        · exact hok u e
        · rw [List.mem_singleton.mp e]
          exact hok ws (List.mem_of_getElem? hw1)
    all_goals
      rename_i p G1 n2 s2 e2
      have nop : p ≠ o := (ne_of_none eo n2).symm
      have hne : ∀ q ∈ ps, q ≠ o ∧ q ≠ p := fun q hq => by
        obtain ⟨k, hk⟩ := List.mem_iff_getElem?.mp hq
        obtain ⟨u, _, hu⟩ := hA.get hk
        unfold DictAt at hu
        refine ⟨fun z => ?_, fun z => ?_⟩
        · rw [z, eo] at hu
          cases hu
        · rw [z, n2] at hu
          cases hu
      refine for_r (fun j σ2 G2 => ∃ (ws : List (Str × Int)) (y5 : Option V), σ2 = [some (.ref a), some (.int c), some (.int (m : Int)), some (.ref o), some (.int (t : Int)), y5] ∧ Same H G2 ∧ G2 o = some (.lst ((ps ++ [p]).map V.ref)) ∧ A2 (DictAt G2) ps wss ∧ G2 p = some (.dK (wkv ws)) ∧ Has (fun n => ∃ j', j' < j ∧ nm[j']? = some n) ws ∧ (ws.map (·.1)).Nodup ∧ ws.length ≤ j)
        ⟨[], _, rfl, same_mut (sG.trans s2) n1, by rw [upd_same, List.map_append]; rfl, hA.mono2 fun q u hq e => ?_, by rw [upd_ne nop]; exact e2, fun n hn => (by obtain ⟨j', hj, _⟩ := hn; omega), List.nodup_nil, Nat.le_refl _⟩ (fun j σ2 G2 hj k => ?_) (fun σ2 G2 k => ?_)
      · unfold DictAt
        rw [upd_ne (hne q hq).1]
        exact s2 _ _ e
      · obtain ⟨ws, y5, rfl, sG2, eo2, hA2, ep2, has, nd, hwl⟩ := k
        have hj4 : j < 4 := hj
        have hjn : j < nm.length := by omega
        have hcj : Builtin.Int.intBits (c + (j : Int)) ≤ 1048577 := bits_add hc (Nat.le_trans (intBits_le_64 (by omega) (by omega)) (by decide))
        have kk1 : (0 : Int) ≤ (t : Int) * (t : Int) := Int.mul_nonneg (Int.natCast_nonneg t) (Int.natCast_nonneg t)
        have kk2 : (t : Int) * (t : Int) ≤ 60 * 60 := Int.mul_le_mul (by omega) (by omega) (Int.natCast_nonneg t) (by decide)
        walk_at "ws"
        rename_i v2
        have e3 : atI ((ps ++ [p]).map V.ref) (t : Int) = some (.ref p) := atI_nat (by
          rw [List.map_append, List.getElem?_append_right (by rw [hpm]; exact Nat.le_refl _), hpm, Nat.sub_self]
          rfl)
        refine w_ixL (SqL.of eo2) e3 ?_
        walk_at "ws"
        refine w_ixL (sG2.seq hS) (atI_nat (by rw [List.getElem?_map, List.getElem?_eq_getElem hjn]; rfl)) ?_
        walk_at "ws"
        have nHp : H p = none := sG.free n2
        refine ⟨_, _, rfl, same_mut sG2 nHp, by rw [upd_ne nop.symm]; exact eo2, hA2.mono2 fun q u hq e => ?_, upd_same, (has_put has).mono fun n hn => ?_, putW_nodup _ _ nd, ?_⟩
        · unfold DictAt
          rw [upd_ne (hne q hq).2]
          exact e
        · obtain ⟨z, hz1, hz2⟩ := hn
          by_cases hz : z = j
          · left
            rw [hz, List.getElem?_eq_getElem hjn] at hz2
            cases hz2
            rfl
          · exact .inr ⟨z, by omega, hz2⟩
        · have := putW_len ws nm[j] v2
          omega
      · obtain ⟨ws, y5, rfl, sG2, eo2, hA2, ep2, has, nd, hwl⟩ := k
        refine ⟨ps ++ [p], wss ++ [ws], _, _, rfl, sG2, eo2, hA2.snoc ep2, by rw [List.length_append, hl]; rfl, fun u hu => ?_⟩
        rcases List.mem_append.mp hu with e | e
        · exact hok u e
        · rw [List.mem_singleton.mp e]
          refine ⟨has.mono fun n hn => ?_, nd, hwl⟩
          obtain ⟨j, hj, ej⟩ := List.mem_iff_getElem.mp hn
          exact ⟨j, by show j < 4; omega, by rw [List.getElem?_eq_getElem hj, ej]⟩
  · obtain ⟨ps, wss, y4, y5, rfl, sG, eo, hA, hl, hok⟩ := q
    walk_at "ws"
    exact h ps wss o G (by rw [hl]; rfl) hok n1 sG eo hA

def sp_law_same (K : PySem.W.Frag) : Sp := fun vs H Q _ => ∃ (f d : Addr) (qs es : List Addr) (bss : List (List Int)), vs = [.ref f, .ref d] ∧ H f = some (.lst (qs.map V.ref)) ∧ A2 (IntsAt H) qs bss ∧ H d = some (.lst (es.map V.ref)) ∧ A2 (IntsAt H) es bss ∧ bss.length ≤ 60000 ∧ (∀ bs ∈ bss, bs.length ≤ 60000) ∧ ∀ H', Same H H' → Q (.bl true) H'
theorem ok_law_same (T : Top K mg) : FnOk P w K mg base CX0 3 T.a_law_same T.d_law_same ["_law_found", "_law_due"] (sp_law_same K) := by
  refine T.f_law_same.ok sc_law_same (fun vs H Q E h => ?_) (fun cdv A outer s H vs Q E hr h => ?_)
  · obtain ⟨f, d, qs, es, bss, rfl, _⟩ := h
    rfl
  obtain ⟨f, d, qs, es, bss, rfl, h⟩ := h
  refine ⟨_, (pss_cons (ps_if (PW.pt (pw_or (pt_not (pt_val (pe_callB (c_isiK K) (by rfl) T.z_isinstance (by decide +kernel) (pa_cons (pv 0) (pa_cons (pe_bltn (v := .ty "list") (by rfl) T.z_list (by decide +kernel) rfl) pa_nil))))) (pw_or1 (pt_cmpR op_ne (pe_callB (c_lenK K) (by rfl) T.z_len PySem.boot_len (pa_cons (pv 0) pa_nil)) (pe_callB (c_lenK K) (by rfl) T.z_len PySem.boot_len (pa_cons (pv 1) pa_nil)) (nomark _))))) (pss_one (ps_ret pe_bl)) pss_nil)
      (pss_cons (ps_for PassesOwn.never rfl (pi_range1 (by rfl) T.z_range (pa_cons (pe_callB (c_lenK K) (by rfl) T.z_len PySem.boot_len (pa_cons (pv 1) pa_nil)) pa_nil)) (pg_name (i := 2) sc_law_same.nd rfl (.inl rfl))
      (pss_one (ps_if (pt_not (pt_val (pe_call (ok_law_list T) (hr.mono (by decide)) (by rfl) T.g_law_list T.f_law_list.kp T.b_law_list .nil pass0 (pa_cons (pe_ix (ix_listK K) (pv 0) (pv 2) (fun _ _ => rfl)) (pa_cons (pe_ix (ix_listK K) (pv 1) (pv 2) (fun _ _ => rfl)) pa_nil))))) (pss_one (ps_ret pe_bl)) pss_nil)))
      (pss_one (ps_ret pe_bl)))), ?_⟩
  try dsimp only [cxOf, Cx.nox, Cx.wish]
  simp only [L2.start, List.map_cons, List.map_nil, List.length_cons, List.length_nil, Nat.reduceAdd, Nat.reduceSub, List.replicate_succ, List.replicate_zero, List.cons_append, List.nil_append]
  obtain ⟨hf, hA, hd, hB, hl, hbl, h⟩ := h
  have hql := hA.1
  have hel := hB.1
  have hqm : (qs.map V.ref).length = bss.length := by rw [List.length_map]; exact hql
  have hem : (es.map V.ref).length = bss.length := by rw [List.length_map]; exact hel
  walk_at "ws"
  refine for_r (fun t σ' G => ∃ (y2 : Option V), σ' = [some (.ref f), some (.ref d), y2] ∧ Same H G) ⟨_, rfl, Same.refl _⟩ (fun t σ' G ht q => ?_) (fun σ' G q => ?_)
  · obtain ⟨y2, rfl, sG⟩ := q
    have h1 : t < qs.length := by omega
    have h2 : t < es.length := by omega
    obtain ⟨bs, hb1, hb2⟩ := hA.get (List.getElem?_eq_getElem h1)
    obtain ⟨bs', hb3, hb4⟩ := hB.get (List.getElem?_eq_getElem h2)
    rw [hb1] at hb3
    cases hb3
    walk_at "ws"
    refine w_ixL (SqL.of (sG _ _ hf)) (row_at h1) ?_
    walk_at "ws"
    refine w_ixL (SqL.of (sG _ _ hd)) (row_at h2) ?_
    walk_at "ws"
    refine ⟨_, _, bs, rfl, sG _ _ hb2, SqL.of (sG _ _ hb4), Nat.le_trans (hbl bs (List.mem_of_getElem? hb1)) (by decide), ?_⟩
    walk_at "ws"
    exact ⟨_, rfl, sG⟩
  · obtain ⟨y2, rfl, sG⟩ := q
    walk_at "ws"
    exact h _ sG
theorem beatsL_lens {rs : List Row} : ∀ {wss : List (List (Str × Int))} (bs : List Int), bs ∈ beatsL rs wss → bs.length = rs.length := by
  have key : ∀ (wss : List (List (Str × Int))) (acc : List (List Int)), (∀ b ∈ acc, b.length = rs.length) → ∀ b ∈ wss.foldl (fun acc ws => acc ++ [beatL rs (acc.getLastD []) ws]) acc, b.length = rs.length := by
    intro wss
    induction wss with
    | nil => intro acc h; exact h
    | cons w r ih =>
      intro acc h
      refine ih _ fun b hb => ?_
      rcases List.mem_append.mp hb with e | e
      · exact h b e
      · rw [List.mem_singleton.mp e]
        exact runL_len ..
  intro wss bs hb
  exact key wss [] (fun b h => by cases h) bs hb
theorem pair_dicts {G : Hp} {nm : List Str} {K : PySem.W.Frag} : ∀ {ps qs : List Addr} {wss : List (List (Str × Int))}, A2 (DictAt G) ps wss → A2 (DictAt G) qs wss → (∀ ws ∈ wss, WsOk nm ws) → Paired (EqV K G 2) (ps.map V.ref) (qs.map V.ref)
  | [], [], _, _, _, _ => .nil
  | [], q :: qs, wss, h1, h2, _ => by have a := h1.1; have b := h2.1; rw [← a] at b; simp at b
  | p :: ps, [], wss, h1, h2, _ => by have a := h1.1; have b := h2.1; rw [← a] at b; simp at b
  | p :: ps, q :: qs, [], h1, _, _ => by have a := h1.1; simp at a
  | p :: ps, q :: qs, w :: wss, h1, h2, ok => by
    have hw := ok w (List.mem_cons_self ..)
    refine .cons (.inr (.inr (.inr ⟨p, q, wkv w, wkv w, rfl, rfl, h1.tail.1, h2.tail.1, rfl, fun z hz => ⟨z.2, valV_self hw.2.1 z hz, .inl ⟨rfl, flat_wkv w z hz⟩⟩⟩))) (pair_dicts h1.tail.2 h2.tail.2 fun u hu => ok u (List.mem_cons_of_mem _ hu))
def sp_law (K : PySem.W.Frag) : Sp := fun vs H Q _ => ∃ (a : Addr) (ns : List Int), vs = [.ref a] ∧ SqL K H a (ns.map V.int) ∧ ns.length ≤ 63 ∧ (∀ z ∈ ns, Builtin.Int.intBits z ≤ 1048576) ∧ ∀ H', Q (.bl true) H'
theorem ok_law (T : Top K mg) : FnOk P w K mg base CX0 4 T.a_law T.d_law ["_law_script"] (sp_law K) := by
  refine T.f_law.ok sc_law (fun vs H Q E h => ?_) (fun cdv A outer s H vs Q E hr h => ?_)
  · obtain ⟨a, ns, rfl, _⟩ := h
    rfl
  obtain ⟨a, ns, rfl, h⟩ := h
  refine ⟨_, (pss_cons (ps_set (i := 1) sc_law.nd rfl (.inl rfl) (pe_call (ok_law_names T) (hr.mono (by decide)) (by rfl) T.g_law_names T.f_law_names.kp T.b_law_names .nil pass0 (pa_cons (pe_call (ok_law_mixed T) (hr.mono (by decide)) (by rfl) T.g_law_mixed T.f_law_mixed.kp T.b_law_mixed .nil pass0 (pa_cons (pe_call (ok_law_at T) (hr.mono (by decide)) (by rfl) T.g_law_at T.f_law_at.kp T.b_law_at .nil pass0 (pa_cons (pv 0) (pa_cons pe_int pa_nil))) (pa_cons pe_int pa_nil))) pa_nil)))
      (pss_cons (ps_set (i := 2) sc_law.nd rfl (.inl rfl) (pe_call (ok_law_ins T) (hr.mono (by decide)) (by rfl) T.g_law_ins T.f_law_ins.kp T.b_law_ins .nil pass0 (pa_cons (pv 1) (pa_cons (pe_call (ok_law_mixed T) (hr.mono (by decide)) (by rfl) T.g_law_mixed T.f_law_mixed.kp T.b_law_mixed .nil pass0 (pa_cons (pe_call (ok_law_at T) (hr.mono (by decide)) (by rfl) T.g_law_at T.f_law_at.kp T.b_law_at .nil pass0 (pa_cons (pv 0) (pa_cons pe_int pa_nil))) (pa_cons pe_int pa_nil))) (pa_cons (pe_op op_add pe_int (pe_op op_mod (pe_call (ok_law_at T) (hr.mono (by decide)) (by rfl) T.g_law_at T.f_law_at.kp T.b_law_at .nil pass0 (pa_cons (pv 0) (pa_cons pe_int pa_nil))) pe_int)) pa_nil)))))
      (pss_cons (ps_set (i := 3) sc_law.nd rfl (.inl rfl) (pe_call (ok_law_rows T) (hr.mono (by decide)) (by rfl) T.g_law_rows T.f_law_rows.kp T.b_law_rows .nil pass0 (pa_cons (pe_call (ok_law_numbers T) (hr.mono (by decide)) (by rfl) T.g_law_numbers T.f_law_numbers.kp T.b_law_numbers .nil pass0 (pa_cons (pv 0) (pa_cons pe_int pa_nil))) (pa_cons (pv 2) (pa_cons (pe_op op_mod (pe_call (ok_law_at T) (hr.mono (by decide)) (by rfl) T.g_law_at T.f_law_at.kp T.b_law_at .nil pass0 (pa_cons (pv 0) (pa_cons pe_int pa_nil))) pe_int) (pa_cons pe_bl pa_nil))))))
      (pss_cons (ps_set (i := 4) sc_law.nd rfl (.inl rfl) (pe_op op_mod (pe_call (ok_law_at T) (hr.mono (by decide)) (by rfl) T.g_law_at T.f_law_at.kp T.b_law_at .nil pass0 (pa_cons (pv 0) (pa_cons pe_int pa_nil))) pe_int))
      (Evl.pss_cut (ps_if (pt_cmpR op_eq (pe_op op_mod (pe_op op_fdiv (pe_call (ok_law_at T) (hr.mono (by decide)) (by rfl) T.g_law_at T.f_law_at.kp T.b_law_at .nil pass0 (pa_cons (pv 0) (pa_cons pe_int pa_nil))) pe_int) pe_int) pe_int (nomark _)) (pss_one (ps_set (i := 4) sc_law.nd rfl (.inl rfl) pe_int)) pss_nil)
      (pss_cons (ps_set (i := 5) sc_law.nd rfl (.inl rfl) (pe_call (ok_law_some T) (hr.mono (by decide)) (by rfl) T.g_law_some T.f_law_some.kp T.b_law_some .nil pass0 (pa_cons (pv 1) (pa_cons (pe_call (ok_law_at T) (hr.mono (by decide)) (by rfl) T.g_law_at T.f_law_at.kp T.b_law_at .nil pass0 (pa_cons (pv 0) (pa_cons pe_int pa_nil))) (pa_cons (pv 4) pa_nil)))))
      (pss_cons (ps_set (i := 6) sc_law.nd rfl (.inl rfl) (pe_callTy (c_listK K) (by rfl) T.z_list (by decide +kernel) (pa_cons (pv 3) pa_nil)))
      (pss_cons (ps_set (i := 7) sc_law.nd rfl (.inl rfl) (pe_callTy (c_listK K) (by rfl) T.z_list (by decide +kernel) (pa_cons (pv 5) pa_nil)))
      (pss_cons (ps_setLc (i := 8) (own := [("_law_words", 12)]) (g := gName 12) (tt := tYes) (by rfl) sc_law.nd rfl rfl (sw_true rfl rfl rfl (by decide +kernel)) (pi_list (pv 5)) (blkOk_by (N := ["_law_script", "_law_names_here", "_law_ins_here", "_law_rows_here", "_law_many", "_law_some_here", "_law_handed", "_law_given", "_law_kept", "_law_due", "_law_found", "_law_bits_here", "_law_words"]) (sc := defScope s_law) (by decide +kernel)) (fun _ _ _ _ _ => (pg_name (i := 12) sc_law.nd rfl (.inl rfl))) (fun _ _ _ _ _ => pts_nil) (fun _ _ _ _ _ => (pe_callTy c_dictD (by rfl) T.z_dict (by decide +kernel) (pa_cons (pv 12) pa_nil))))
      (pss_cons (ps_set (i := 9) sc_law.nd rfl (.inl rfl) (pe_call (ok_law_beats T) (hr.mono (by decide)) (by rfl) T.g_law_beats T.f_law_beats.kp T.b_law_beats .nil pass0 (pa_cons (pv 3) (pa_cons (pv 5) pa_nil))))
      (pss_cons (ps_set (i := 10) sc_law.nd rfl (.inl rfl) (pe_call (ok_beats T) (hr.mono (by decide)) (by rfl) T.g_beats T.f_beats.kp T.b_beats .nil pass0 (pa_cons (pv 6) (pa_cons (pv 7) pa_nil))))
      (pss_cons (ps_if (PW.pt (pw_or (pt_not (pt_val (pe_call (ok_law_same T) (hr.mono (by decide)) (by rfl) T.g_law_same T.f_law_same.kp T.b_law_same .nil pass0 (pa_cons (pv 10) (pa_cons (pv 9) pa_nil))))) (pw_or (pt_cmpR (op_neD hr.units) (pv 6) (pv 3) (nomark _)) (pw_or1 (pt_cmpR (op_neV hr.units K) (pv 7) (pv 8) (nomark _)))))) (pss_one (ps_ret pe_bl)) pss_nil)
      (pss_cons (ps_for PassesOwn.never rfl (pi_list (pv 10)) (pg_name (i := 11) sc_law.nd rfl (.inl rfl))
      (pss_one (ps_expr (pe_bm PySem.F.plainAttrs_list PySem.F.slot_list_append PySem.F.type_list_append mt_append (pv 11) (pa_cons pe_int pa_nil)))))
      (pss_one (ps_ret (pe_call (ok_law_same T) (hr.mono (by decide)) (by rfl) T.g_law_same T.f_law_same.kp T.b_law_same .nil pass0 (pa_cons (pe_call (ok_beats T) (hr.mono (by decide)) (by rfl) T.g_beats T.f_beats.kp T.b_beats .nil pass0 (pa_cons (pv 6) (pa_cons (pv 7) pa_nil))) (pa_cons (pv 9) pa_nil)))))))))))))))))), ?_⟩
  try dsimp only [cxOf, Cx.nox, Cx.wish]
  simp only [L2.start, List.map_cons, List.map_nil, List.length_cons, List.length_nil, Nat.reduceAdd, Nat.reduceSub, List.replicate_succ, List.replicate_zero, List.cons_append, List.nil_append]
  obtain ⟨hS, hlen, hb, h⟩ := h
  have hb : Bits ns := hb
  walk_at "ws"
  rename_i v0 b0 x0 y0 z0
  refine ⟨_, rfl, ⟨y0, z0⟩, fun nm pn Hn hn4 hnm nn sn en => ?_⟩
  walk_at "ws"
  rename_i v1 b1 x1 y1 z1 v2 b2
  refine ⟨_, nm, _, _, rfl, SqL.of en, hn4, ⟨y1, z1⟩, by omega, fun is pi Hi hil hin ni si hI => ?_⟩
  walk_at "ws"
  refine ⟨_, ns, _, rfl, (sn.trans si).seq hS, hb, by decide, fun xs px Hx hxl hx nx sx ex => ?_⟩
  walk_at "ws"
  rename_i v3 b3
  refine ⟨px, pi, xs, is, _, true, nm, rfl, SqL.of ex, hx, by omega, (hI.same sx).read, hin, by omega, by omega, fun rs pr Hr hrl hok _ nr sr hR => ?_⟩
  obtain ⟨ps, er, hA⟩ := hR
  have hpl := hA.1
  walk_at "ws"
  rename_i v4 b4
  refine w_cut (fun σ' G => ∃ m : Nat, σ' = [some (.ref a), some (.ref pn), some (.ref pi), some (.ref pr), some (.int (m : Int)), none, none, none, none, none, none, none, none] ∧ Same Hr G ∧ m ≤ 60) ?_ ?_
  · have hS2 : SqL K Hr a (ns.map V.int) := (((sn.trans si).trans sx).trans sr).seq hS
    walk_at "ws"
    · exact ⟨40, rfl, Same.refl _, by decide⟩
    · refine ⟨(v4 % 9).toNat, ?_, Same.refl _, by omega⟩
      rw [show (((v4 % 9).toNat : Nat) : Int) = v4 % 9 by omega]
      rfl
  rintro σ' G ⟨m, rfl, sG, hm⟩
  have sA : Same H G := (((sn.trans si).trans sx).trans sr).trans sG
  have hS3 := sA.seq hS
  have enG := sG _ _ (sr _ _ (sx _ _ (si _ _ en)))
  walk_at "ws"
  rename_i v5 b5
  refine ⟨pn, nm, v5, m, rfl, SqL.of enG, hn4, b5, hm, fun ds wss pd Gd hwl hws nd sd ed hD => ?_⟩
  have hdl := hD.1
  have erd : Gd pr = some (.lst (ps.map V.ref)) := sd _ _ (sG _ _ er)
  walk_at "ws"
  rename_i ph G1 n1 s1 e1 pg G2 n2 s2 e2
  intro pk nk
  refine lc_list (xs := ds.map V.ref) (fun i H' => ∃ ks : List Addr, H' pk = some (.lst (ks.map V.ref)) ∧ Same G2 H' ∧ A2 (DictAt H') ks (wss.take i)) ⟨[], upd_same, same_upd nk, A2.nil⟩ (fun i H' _ e => ?_) (fun i x H' hx e => ?_) (fun H' e => ?_)
  · obtain ⟨ks, _, s3, _⟩ := e
    exact SqL.of (s3 _ _ (s2 _ _ (s1 _ _ ed)))
  · obtain ⟨ks, e3, s3, hK⟩ := e
    obtain ⟨d, hd, rfl⟩ := get_map hx
    obtain ⟨w, hw, hdw⟩ := hD.get hd
    have hwi := (List.getElem?_eq_some_iff.mp hw).1
    have hkl := hK.1
    rw [List.length_take] at hkl
    have hdw2 : H' d = some (.dK (wkv w)) := s3 _ _ (s2 _ _ (s1 _ _ hdw))
    refine ⟨rfl, ?_⟩
    show tCB rDictD (tCons (tVar 12) tNil) [some (V.ref a), some (.ref pn), some (.ref pi), some (.ref pr), some (.int (m : Int)), some (.ref pd), some (.ref ph), some (.ref pg), none, none, none, none, some (.ref d)] H' _
    walk_at "ws"
    rename_i p4 G4 n4 s4 e4
    have n5 : p4 ≠ pk := (ne_of_none e3 n4).symm
    refine ⟨ks.map V.ref, s4 _ _ e3, ?_, ks ++ [p4], by rw [upd_same, List.map_append]; rfl, same_mut (s3.trans s4) nk, ?_⟩
    · rw [List.length_map, sizeLine_eq]
      omega
    · rw [take_snoc hw]
      have hKk : ∀ q ∈ ks, q ≠ pk := fun q hq z => by
        obtain ⟨k, hk⟩ := List.mem_iff_getElem?.mp hq
        obtain ⟨u, _, hu⟩ := hK.get hk
        unfold DictAt at hu
        rw [z, e3] at hu
        cases hu
      refine (A2.mono2 hK fun q u hq e => ?_).snoc ?_
      · unfold DictAt
        rw [upd_ne (hKk q hq)]
        exact s4 _ _ e
      · unfold DictAt
        rw [upd_ne n5]
        exact e4
  obtain ⟨ks, e3, s3, hK⟩ := e
  rw [List.length_map, hdl, List.take_of_length_le (Nat.le_refl _)] at hK
  have hA3 : A2 (RowAt H') ps rs := hA.mono fun _ _ e => s3 _ _ (s2 _ _ (s1 _ _ (sd _ _ (sG _ _ e))))
  have er3 : H' pr = some (.lst (ps.map V.ref)) := s3 _ _ (s2 _ _ (s1 _ _ (sd _ _ (sG _ _ er))))
  have hD3 : A2 (DictAt H') ds wss := hD.mono fun _ _ e => s3 _ _ (s2 _ _ (s1 _ _ e))
  have hhas : ∀ ws ∈ wss, Has (· ∈ nm) ws := fun ws h => (hws ws h).1
  have ed3 : H' pd = some (.lst (ds.map V.ref)) := s3 _ _ (s2 _ _ (s1 _ _ ed))
  have eh3 : H' ph = some (.lst (ps.map V.ref)) := s3 _ _ (s2 _ _ e1)
  have eg3 : H' pg = some (.lst (ds.map V.ref)) := s3 _ _ e2
  walk_at "ws"
  refine ⟨pr, pd, rs, wss, _, rfl, ⟨ps, SqL.of er3, hA3⟩, ⟨ds, SqL.of ed3, hD3⟩, hok, by omega, by omega, hhas, fun pb Hb hT => ?_⟩
  obtain ⟨bs, nb, hfb, sb, eb, hB⟩ := hT
  walk_at "ws"
  have hAb : A2 (RowAt Hb) ps rs := hA3.mono fun _ _ e => sb _ _ e
  have hDb : A2 (DictAt Hb) ds wss := hD3.mono fun _ _ e => sb _ _ e
  refine ⟨ph, pg, rs, wss, _, rfl, ⟨ps, SqL.of (sb _ _ eh3), hAb⟩, ⟨ds, SqL.of (sb _ _ eg3), hDb⟩, hok, by omega, by omega, hhas, fun pc Hc hT => ?_⟩
  obtain ⟨cs, nc, hfc, sc, ec, hC⟩ := hT
  walk_at "ws"
  have hBl : (beatsL rs wss).length ≤ 60000 := by rw [beats_len]; omega
  have hBs : ∀ b ∈ beatsL rs wss, b.length ≤ 60000 := fun b hb => by rw [beatsL_lens b hb]; omega
  refine ⟨pc, pb, cs, bs, _, rfl, ec, hC, sc _ _ eb, hB.mono fun _ _ e => sc _ _ e, hBl, hBs, fun He se => ?_⟩
  walk_at "ws"
  have s5 : Same Hb He := sc.trans se
  have s6 : Same H' He := sb.trans s5
  refine w_neSame (.list (rs.map rowD)) (.lst (SqL.of (s6 _ _ eh3)) (dp_rows (hA3.mono fun _ _ e => s6 _ _ e))) (.lst (SqL.of (s6 _ _ er3)) (dp_rows (hA3.mono fun _ _ e => s6 _ _ e))) (shaped_rows (rows_named hnm hok)) ?_
  walk_at "ws"
  have ecE : He pc = some (.lst (cs.map V.ref)) := se _ _ ec
  refine ⟨2, by decide, ⟨pg, pk, _, _, rfl, rfl, SqL.of (s6 _ _ eg3), SqL.of (s6 _ _ e3), pair_dicts (hD3.mono fun _ _ e => s6 _ _ e) (hK.mono fun _ _ e => s6 _ _ e) hws⟩, ?_⟩
  walk_at "ws"
  have hcl := hC.1
  rw [beats_len] at hcl
  refine for_l (cs.map V.ref) (fun i σ' G3 => ∃ y11 : Option V, σ' = [some (.ref a), some (.ref pn), some (.ref pi), some (.ref pr), some (.int (m : Int)), some (.ref pd), some (.ref ph), some (.ref pg), some (.ref pk), some (.ref pb), some (.ref pc), y11, none] ∧ Same Hb G3 ∧ G3 pc = some (.lst (cs.map V.ref)) ∧ ∀ q ∈ cs, ∃ xs, G3 q = some (.lst xs) ∧ xs.length ≤ 1000 + i)
    ⟨_, rfl, s5, se _ _ ec, fun q hq => ?_⟩ (fun i σ' G3 _ k => ?_) (fun i x σ' G3 hx k => ?_) (fun σ' G3 k => ?_)
  · obtain ⟨k, hk⟩ := List.mem_iff_getElem?.mp hq
    obtain ⟨b, hb1, hb2⟩ := hC.get hk
    refine ⟨_, se _ _ hb2, ?_⟩
    rw [List.length_map, beatsL_lens b (List.mem_of_getElem? hb1)]
    omega
  · obtain ⟨y11, rfl, _, e9, _⟩ := k
    exact SqL.of e9
  · obtain ⟨y11, rfl, s9, e9, h9⟩ := k
    obtain ⟨q, hq, rfl⟩ := get_map hx
    have hqc := List.mem_of_getElem? hq
    obtain ⟨xs9, eq9, hl9⟩ := h9 q hqc
    have hic := (List.getElem?_eq_some_iff.mp hq).1
    walk_at "ws"
    refine ⟨_, rfl, same_mut s9 (hfc q hqc).1, by rw [upd_ne (hfc q hqc).2.symm]; exact e9, fun z hz => ?_⟩
    by_cases e : z = q
    · subst e
      refine ⟨_, upd_same, ?_⟩
      rw [List.length_append, List.length_singleton]
      omega
    · obtain ⟨ys, ey, hy⟩ := h9 z hz
      exact ⟨ys, by rw [upd_ne e]; exact ey, by omega⟩
  · obtain ⟨y11, rfl, s9, _⟩ := k
    walk_at "ws"
    have s10 : Same H' G3 := sb.trans s9
    refine ⟨ph, pg, rs, wss, _, rfl, ⟨ps, SqL.of (s10 _ _ eh3), hA3.mono fun _ _ e => s10 _ _ e⟩, ⟨ds, SqL.of (s10 _ _ eg3), hD3.mono fun _ _ e => s10 _ _ e⟩, hok, by omega, by omega, hhas, fun pc2 Hc2 hT2 => ?_⟩
    obtain ⟨cs2, nc2, hfc2, sc2, ec2, hC2⟩ := hT2
    walk_at "ws"
    have s11 : Same Hb Hc2 := s9.trans sc2
    refine ⟨pc2, pb, cs2, bs, _, rfl, ec2, hC2, s11 _ _ eb, hB.mono fun _ _ e => s11 _ _ e, hBl, hBs, fun He2 se2 => ?_⟩
    walk_at "ws"
    exact h _

end
theorem end_sp_law {K : PySem.W.Frag} {H : Hp} {a : Addr} {ns : List Int} (hl : ns.length ≤ 63) (hb : ∀ z ∈ ns, Builtin.Int.intBits z ≤ 1048576) (_ : Only H) (hS : SqL K H a (ns.map V.int)) : sp_law K [.ref a] H (fun v _ => v = .bl true) fun _ _ _ => False :=
  ⟨a, ns, rfl, hS, hl, hb, fun _ => rfl⟩
theorem all_mk {l : PySem.W.OpenLaw} {w : World} {K : PySem.W.Frag} {h : Heap} {mg : Str → Option Value} {fa ha0 ha1 ha2 ha3 ha4 ha5 ha6 ha7 ha8 ha9 ha10 ha11 ha12 ha13 ha14 ha15 ha16 ha17 ha18 : Addr} (X : K.In h) (G : h.Ns mainGlobals mg) (hfa : mg "law" = some (.ref fa))
    {od0 an0 od1 an1 od2 an2 od3 an3 od4 an4 od5 an5 od6 an6 od7 an7 od8 an8 od9 an9 od10 an10 od11 an11 od12 an12 od13 an13 od14 an14 od15 an15 od16 an16 od17 an17 od18 an18 : Option Addr} {shl0 shl1 shl2 shl3 shl4 shl5 shl6 shl7 shl8 shl9 shl10 shl11 shl12 shl13 shl14 shl15 shl16 shl17 shl18 : Array (Option Value)} {oc0 kV0 dc0 pm0 cd0 ct0 oc1 kV1 dc1 pm1 cd1 ct1 oc2 kV2 dc2 pm2 cd2 ct2 oc3 kV3 dc3 pm3 cd3 ct3 oc4 kV4 dc4 pm4 cd4 ct4 oc5 kV5 dc5 pm5 cd5 ct5 oc6 kV6 dc6 pm6 cd6 ct6 oc7 kV7 dc7 pm7 cd7 ct7 oc8 kV8 dc8 pm8 cd8 ct8 oc9 kV9 dc9 pm9 cd9 ct9 oc10 kV10 dc10 pm10 cd10 ct10 oc11 kV11 dc11 pm11 cd11 ct11 oc12 kV12 dc12 pm12 cd12 ct12 oc13 kV13 dc13 pm13 cd13 ct13 oc14 kV14 dc14 pm14 cd14 ct14 oc15 kV15 dc15 pm15 cd15 ct15 oc16 kV16 dc16 pm16 cd16 ct16 oc17 kV17 dc17 pm17 cd17 ct17 oc18 kV18 dc18 pm18 cd18 ct18 : Value}
    (hg0 : PySem.W.nsIn K mainGlobals "gate_bit" = some (some (.ref ha0)))
    (hl0 : K.lookup ha0 = some ⟨oc0, od0, .func (PySem.W.fnOf "gate_bit" "gate_bit" (defArgs s_gate_bit) (defBody s_gate_bit) (defScope s_gate_bit) .none kV0 dc0 pm0 an0 cd0 ct0), shl0⟩)
    (hk0 : PySem.W.codeIn K cd0 "gate_bit" = true)
    (hp0 : PySem.W.keepIn K (.ref ha0) = true)
    (hg1 : PySem.W.nsIn K mainGlobals "beat_bit" = some (some (.ref ha1)))
    (hl1 : K.lookup ha1 = some ⟨oc1, od1, .func (PySem.W.fnOf "beat_bit" "beat_bit" (defArgs s_beat_bit) (defBody s_beat_bit) (defScope s_beat_bit) .none kV1 dc1 pm1 an1 cd1 ct1), shl1⟩)
    (hk1 : PySem.W.codeIn K cd1 "beat_bit" = true)
    (hp1 : PySem.W.keepIn K (.ref ha1) = true)
    (hg2 : PySem.W.nsIn K mainGlobals "beats" = some (some (.ref ha2)))
    (hl2 : K.lookup ha2 = some ⟨oc2, od2, .func (PySem.W.fnOf "beats" "beats" (defArgs s_beats) (defBody s_beats) (defScope s_beats) .none kV2 dc2 pm2 an2 cd2 ct2), shl2⟩)
    (hk2 : PySem.W.codeIn K cd2 "beats" = true)
    (hp2 : PySem.W.keepIn K (.ref ha2) = true)
    (hg3 : PySem.W.nsIn K mainGlobals "_law_whole" = some (some (.ref ha3)))
    (hl3 : K.lookup ha3 = some ⟨oc3, od3, .func (PySem.W.fnOf "_law_whole" "_law_whole" (defArgs s_law_whole) (defBody s_law_whole) (defScope s_law_whole) .none kV3 dc3 pm3 an3 cd3 ct3), shl3⟩)
    (hk3 : PySem.W.codeIn K cd3 "_law_whole" = true)
    (hp3 : PySem.W.keepIn K (.ref ha3) = true)
    (hg4 : PySem.W.nsIn K mainGlobals "_law_at" = some (some (.ref ha4)))
    (hl4 : K.lookup ha4 = some ⟨oc4, od4, .func (PySem.W.fnOf "_law_at" "_law_at" (defArgs s_law_at) (defBody s_law_at) (defScope s_law_at) .none kV4 dc4 pm4 an4 cd4 ct4), shl4⟩)
    (hk4 : PySem.W.codeIn K cd4 "_law_at" = true)
    (hp4 : PySem.W.keepIn K (.ref ha4) = true)
    (hg5 : PySem.W.nsIn K mainGlobals "_law_mixed" = some (some (.ref ha5)))
    (hl5 : K.lookup ha5 = some ⟨oc5, od5, .func (PySem.W.fnOf "_law_mixed" "_law_mixed" (defArgs s_law_mixed) (defBody s_law_mixed) (defScope s_law_mixed) .none kV5 dc5 pm5 an5 cd5 ct5), shl5⟩)
    (hk5 : PySem.W.codeIn K cd5 "_law_mixed" = true)
    (hp5 : PySem.W.keepIn K (.ref ha5) = true)
    (hg6 : PySem.W.nsIn K mainGlobals "_law_numbers" = some (some (.ref ha6)))
    (hl6 : K.lookup ha6 = some ⟨oc6, od6, .func (PySem.W.fnOf "_law_numbers" "_law_numbers" (defArgs s_law_numbers) (defBody s_law_numbers) (defScope s_law_numbers) .none kV6 dc6 pm6 an6 cd6 ct6), shl6⟩)
    (hk6 : PySem.W.codeIn K cd6 "_law_numbers" = true)
    (hp6 : PySem.W.keepIn K (.ref ha6) = true)
    (hg7 : PySem.W.nsIn K mainGlobals "_law_names" = some (some (.ref ha7)))
    (hl7 : K.lookup ha7 = some ⟨oc7, od7, .func (PySem.W.fnOf "_law_names" "_law_names" (defArgs s_law_names) (defBody s_law_names) (defScope s_law_names) .none kV7 dc7 pm7 an7 cd7 ct7), shl7⟩)
    (hk7 : PySem.W.codeIn K cd7 "_law_names" = true)
    (hp7 : PySem.W.keepIn K (.ref ha7) = true)
    (hg8 : PySem.W.nsIn K mainGlobals "_law_great" = some (some (.ref ha8)))
    (hl8 : K.lookup ha8 = some ⟨oc8, od8, .func (PySem.W.fnOf "_law_great" "_law_great" (defArgs s_law_great) (defBody s_law_great) (defScope s_law_great) .none kV8 dc8 pm8 an8 cd8 ct8), shl8⟩)
    (hk8 : PySem.W.codeIn K cd8 "_law_great" = true)
    (hp8 : PySem.W.keepIn K (.ref ha8) = true)
    (hg9 : PySem.W.nsIn K mainGlobals "_law_ins" = some (some (.ref ha9)))
    (hl9 : K.lookup ha9 = some ⟨oc9, od9, .func (PySem.W.fnOf "_law_ins" "_law_ins" (defArgs s_law_ins) (defBody s_law_ins) (defScope s_law_ins) .none kV9 dc9 pm9 an9 cd9 ct9), shl9⟩)
    (hk9 : PySem.W.codeIn K cd9 "_law_ins" = true)
    (hp9 : PySem.W.keepIn K (.ref ha9) = true)
    (hg10 : PySem.W.nsIn K mainGlobals "_law_rows" = some (some (.ref ha10)))
    (hl10 : K.lookup ha10 = some ⟨oc10, od10, .func (PySem.W.fnOf "_law_rows" "_law_rows" (defArgs s_law_rows) (defBody s_law_rows) (defScope s_law_rows) .none kV10 dc10 pm10 an10 cd10 ct10), shl10⟩)
    (hk10 : PySem.W.codeIn K cd10 "_law_rows" = true)
    (hp10 : PySem.W.keepIn K (.ref ha10) = true)
    (hg11 : PySem.W.nsIn K mainGlobals "_law_turned" = some (some (.ref ha11)))
    (hl11 : K.lookup ha11 = some ⟨oc11, od11, .func (PySem.W.fnOf "_law_turned" "_law_turned" (defArgs s_law_turned) (defBody s_law_turned) (defScope s_law_turned) .none kV11 dc11 pm11 an11 cd11 ct11), shl11⟩)
    (hk11 : PySem.W.codeIn K cd11 "_law_turned" = true)
    (hp11 : PySem.W.keepIn K (.ref ha11) = true)
    (hg12 : PySem.W.nsIn K mainGlobals "_law_gate" = some (some (.ref ha12)))
    (hl12 : K.lookup ha12 = some ⟨oc12, od12, .func (PySem.W.fnOf "_law_gate" "_law_gate" (defArgs s_law_gate) (defBody s_law_gate) (defScope s_law_gate) .none kV12 dc12 pm12 an12 cd12 ct12), shl12⟩)
    (hk12 : PySem.W.codeIn K cd12 "_law_gate" = true)
    (hp12 : PySem.W.keepIn K (.ref ha12) = true)
    (hg13 : PySem.W.nsIn K mainGlobals "_law_bit" = some (some (.ref ha13)))
    (hl13 : K.lookup ha13 = some ⟨oc13, od13, .func (PySem.W.fnOf "_law_bit" "_law_bit" (defArgs s_law_bit) (defBody s_law_bit) (defScope s_law_bit) .none kV13 dc13 pm13 an13 cd13 ct13), shl13⟩)
    (hk13 : PySem.W.codeIn K cd13 "_law_bit" = true)
    (hp13 : PySem.W.keepIn K (.ref ha13) = true)
    (hg14 : PySem.W.nsIn K mainGlobals "_law_list" = some (some (.ref ha14)))
    (hl14 : K.lookup ha14 = some ⟨oc14, od14, .func (PySem.W.fnOf "_law_list" "_law_list" (defArgs s_law_list) (defBody s_law_list) (defScope s_law_list) .none kV14 dc14 pm14 an14 cd14 ct14), shl14⟩)
    (hk14 : PySem.W.codeIn K cd14 "_law_list" = true)
    (hp14 : PySem.W.keepIn K (.ref ha14) = true)
    (hg15 : PySem.W.nsIn K mainGlobals "_law_some" = some (some (.ref ha15)))
    (hl15 : K.lookup ha15 = some ⟨oc15, od15, .func (PySem.W.fnOf "_law_some" "_law_some" (defArgs s_law_some) (defBody s_law_some) (defScope s_law_some) .none kV15 dc15 pm15 an15 cd15 ct15), shl15⟩)
    (hk15 : PySem.W.codeIn K cd15 "_law_some" = true)
    (hp15 : PySem.W.keepIn K (.ref ha15) = true)
    (hg16 : PySem.W.nsIn K mainGlobals "_law_beats" = some (some (.ref ha16)))
    (hl16 : K.lookup ha16 = some ⟨oc16, od16, .func (PySem.W.fnOf "_law_beats" "_law_beats" (defArgs s_law_beats) (defBody s_law_beats) (defScope s_law_beats) .none kV16 dc16 pm16 an16 cd16 ct16), shl16⟩)
    (hk16 : PySem.W.codeIn K cd16 "_law_beats" = true)
    (hp16 : PySem.W.keepIn K (.ref ha16) = true)
    (hg17 : PySem.W.nsIn K mainGlobals "_law_same" = some (some (.ref ha17)))
    (hl17 : K.lookup ha17 = some ⟨oc17, od17, .func (PySem.W.fnOf "_law_same" "_law_same" (defArgs s_law_same) (defBody s_law_same) (defScope s_law_same) .none kV17 dc17 pm17 an17 cd17 ct17), shl17⟩)
    (hk17 : PySem.W.codeIn K cd17 "_law_same" = true)
    (hp17 : PySem.W.keepIn K (.ref ha17) = true)
    (hg18 : PySem.W.nsIn K mainGlobals "law" = some (some (.ref ha18)))
    (hl18 : K.lookup ha18 = some ⟨oc18, od18, .func (PySem.W.fnOf "law" "law" (defArgs s_law) (defBody s_law) (defScope s_law) .none kV18 dc18 pm18 an18 cd18 ct18), shl18⟩)
    (hk18 : PySem.W.codeIn K cd18 "law" = true)
    (hp18 : PySem.W.keepIn K (.ref ha18) = true)
    (z_bool : PySem.W.nsIn K mainGlobals "bool" = some none)
    (z_dict : PySem.W.nsIn K mainGlobals "dict" = some none)
    (z_int : PySem.W.nsIn K mainGlobals "int" = some none)
    (z_isinstance : PySem.W.nsIn K mainGlobals "isinstance" = some none)
    (z_len : PySem.W.nsIn K mainGlobals "len" = some none)
    (z_list : PySem.W.nsIn K mainGlobals "list" = some none)
    (z_min : PySem.W.nsIn K mainGlobals "min" = some none)
    (z_range : PySem.W.nsIn K mainGlobals "range" = some none) :
    ∃ fd : FuncData, (∀ (s : Shared) (v : Value), BindsTo s fd ⟨[v], []⟩ [("_law_script", v)]) ∧ ∀ base : Heap, K.In base → base.Ns mainGlobals mg → FnOk l.prog w K mg base CX0 4 fa fd ["_law_script"] (sp_law K) := by
  have e := hfa.symm.trans (PySem.W.mg_of X G hg18)
  cases e
  have F0 := fun_mk (st := s_gate_bit) hl0 hk0 hp0
  have B0 := F0.binds (ps := ["row", "bits", "words"]) fun _ _ _ _ _ _ us hl => match us, hl with | [_, _, _], _ => rfl
  have F1 := fun_mk (st := s_beat_bit) hl1 hk1 hp1
  have B1 := F1.binds (ps := ["row", "bits", "words", "before"]) fun _ _ _ _ _ _ us hl => match us, hl with | [_, _, _, _], _ => rfl
  have F2 := fun_mk (st := s_beats) hl2 hk2 hp2
  have B2 := F2.binds (ps := ["rows", "some"]) fun _ _ _ _ _ _ us hl => match us, hl with | [_, _], _ => rfl
  have F3 := fun_mk (st := s_law_whole) hl3 hk3 hp3
  have B3 := F3.binds (ps := ["_law_found"]) fun _ _ _ _ _ _ us hl => match us, hl with | [_], _ => rfl
  have F4 := fun_mk (st := s_law_at) hl4 hk4 hp4
  have B4 := F4.binds (ps := ["_law_script", "_law_k"]) fun _ _ _ _ _ _ us hl => match us, hl with | [_, _], _ => rfl
  have F5 := fun_mk (st := s_law_mixed) hl5 hk5 hp5
  have B5 := F5.binds (ps := ["_law_cell", "_law_k"]) fun _ _ _ _ _ _ us hl => match us, hl with | [_, _], _ => rfl
  have F6 := fun_mk (st := s_law_numbers) hl6 hk6 hp6
  have B6 := F6.binds (ps := ["_law_script", "_law_start"]) fun _ _ _ _ _ _ us hl => match us, hl with | [_, _], _ => rfl
  have F7 := fun_mk (st := s_law_names) hl7 hk7 hp7
  have B7 := F7.binds (ps := ["_law_number"]) fun _ _ _ _ _ _ us hl => match us, hl with | [_], _ => rfl
  have F8 := fun_mk (st := s_law_great) hl8 hk8 hp8
  have B8 := F8.binds (ps := ["_law_cell", "_law_k"]) fun _ _ _ _ _ _ us hl => match us, hl with | [_, _], _ => rfl
  have F9 := fun_mk (st := s_law_ins) hl9 hk9 hp9
  have B9 := F9.binds (ps := ["_law_names_here", "_law_number", "_law_many"]) fun _ _ _ _ _ _ us hl => match us, hl with | [_, _, _], _ => rfl
  have F10 := fun_mk (st := s_law_rows) hl10 hk10 hp10
  have B10 := F10.binds (ps := ["_law_numbers_here", "_law_ins_here", "_law_near", "_law_late"]) fun _ _ _ _ _ _ us hl => match us, hl with | [_, _, _, _], _ => rfl
  have F11 := fun_mk (st := s_law_turned) hl11 hk11 hp11
  have B11 := F11.binds (ps := ["_law_row"]) fun _ _ _ _ _ _ us hl => match us, hl with | [_], _ => rfl
  have F12 := fun_mk (st := s_law_gate) hl12 hk12 hp12
  have B12 := F12.binds (ps := ["_law_number", "_law_one", "_law_two"]) fun _ _ _ _ _ _ us hl => match us, hl with | [_, _, _], _ => rfl
  have F13 := fun_mk (st := s_law_bit) hl13 hk13 hp13
  have B13 := F13.binds (ps := ["_law_row", "_law_bits_here", "_law_words"]) fun _ _ _ _ _ _ us hl => match us, hl with | [_, _, _], _ => rfl
  have F14 := fun_mk (st := s_law_list) hl14 hk14 hp14
  have B14 := F14.binds (ps := ["_law_found", "_law_due"]) fun _ _ _ _ _ _ us hl => match us, hl with | [_, _], _ => rfl
  have F15 := fun_mk (st := s_law_some) hl15 hk15 hp15
  have B15 := F15.binds (ps := ["_law_names_here", "_law_cell", "_law_many"]) fun _ _ _ _ _ _ us hl => match us, hl with | [_, _, _], _ => rfl
  have F16 := fun_mk (st := s_law_beats) hl16 hk16 hp16
  have B16 := F16.binds (ps := ["_law_rows_here", "_law_some_here"]) fun _ _ _ _ _ _ us hl => match us, hl with | [_, _], _ => rfl
  have F17 := fun_mk (st := s_law_same) hl17 hk17 hp17
  have B17 := F17.binds (ps := ["_law_found", "_law_due"]) fun _ _ _ _ _ _ us hl => match us, hl with | [_, _], _ => rfl
  have F18 := fun_mk (st := s_law) hl18 hk18 hp18
  have B18 := F18.binds (ps := ["_law_script"]) fun _ _ _ _ _ _ us hl => match us, hl with | [_], _ => rfl
  let T : Top K mg := ⟨ha0,
    _,
    F0,
    B0,
    PySem.W.mg_of X G hg0,
    ha1,
    _,
    F1,
    B1,
    PySem.W.mg_of X G hg1,
    ha2,
    _,
    F2,
    B2,
    PySem.W.mg_of X G hg2,
    ha3,
    _,
    F3,
    B3,
    PySem.W.mg_of X G hg3,
    ha4,
    _,
    F4,
    B4,
    PySem.W.mg_of X G hg4,
    ha5,
    _,
    F5,
    B5,
    PySem.W.mg_of X G hg5,
    ha6,
    _,
    F6,
    B6,
    PySem.W.mg_of X G hg6,
    ha7,
    _,
    F7,
    B7,
    PySem.W.mg_of X G hg7,
    ha8,
    _,
    F8,
    B8,
    PySem.W.mg_of X G hg8,
    ha9,
    _,
    F9,
    B9,
    PySem.W.mg_of X G hg9,
    ha10,
    _,
    F10,
    B10,
    PySem.W.mg_of X G hg10,
    ha11,
    _,
    F11,
    B11,
    PySem.W.mg_of X G hg11,
    ha12,
    _,
    F12,
    B12,
    PySem.W.mg_of X G hg12,
    ha13,
    _,
    F13,
    B13,
    PySem.W.mg_of X G hg13,
    ha14,
    _,
    F14,
    B14,
    PySem.W.mg_of X G hg14,
    ha15,
    _,
    F15,
    B15,
    PySem.W.mg_of X G hg15,
    ha16,
    _,
    F16,
    B16,
    PySem.W.mg_of X G hg16,
    ha17,
    _,
    F17,
    B17,
    PySem.W.mg_of X G hg17,
    fa,
    _,
    F18,
    B18,
    PySem.W.mg_of X G hg18,
    PySem.W.mg_none_of X G z_bool,
    PySem.W.mg_none_of X G z_dict,
    PySem.W.mg_none_of X G z_int,
    PySem.W.mg_none_of X G z_isinstance,
    PySem.W.mg_none_of X G z_len,
    PySem.W.mg_none_of X G z_list,
    PySem.W.mg_none_of X G z_min,
    PySem.W.mg_none_of X G z_range⟩
  exact ⟨T.d_law, fun s v => .of_eq rfl, fun base _ _ => ok_law T⟩
end Dpr
open PySem PySem.W PyProof.Rows
set_option maxHeartbeats 0 in
theorem PySem.Challenge.cw_dotpress_k09_beats_holds : PySem.Challenge.rw_dotpress_k09_beats.Holds := by
  w_on; o_law; k_head; (case hw => w_witness2)
  k_fill
  refine L2.walk_ofB (l := PySem.Challenge.rw_dotpress_k09_beats) (n := 63) (k := 4) (x := "_law_script") (CX := fun _ => L2.CX0) (sp := fun w => Dpr.sp_law _) rfl (by decide) rfl ⟨rfl, by decide, by decide⟩ (fun w h Y => PySem.W.kIn_of Y) ?F (fun w H a ns hl hb hO hS => Dpr.end_sp_law hl hb hO hS) (fun _ _ _ _ _ h => h)
  case F =>
    intro w mg fa h KX G hmg
    refine' Dpr.all_mk KX G hmg ?hg0 ?hl0 ?hk0 ?hp0 ?hg1 ?hl1 ?hk1 ?hp1 ?hg2 ?hl2 ?hk2 ?hp2 ?hg3 ?hl3 ?hk3 ?hp3 ?hg4 ?hl4 ?hk4 ?hp4 ?hg5 ?hl5 ?hk5 ?hp5 ?hg6 ?hl6 ?hk6 ?hp6 ?hg7 ?hl7 ?hk7 ?hp7 ?hg8 ?hl8 ?hk8 ?hp8 ?hg9 ?hl9 ?hk9 ?hp9 ?hg10 ?hl10 ?hk10 ?hp10 ?hg11 ?hl11 ?hk11 ?hp11 ?hg12 ?hl12 ?hk12 ?hp12 ?hg13 ?hl13 ?hk13 ?hp13 ?hg14 ?hl14 ?hk14 ?hp14 ?hg15 ?hl15 ?hk15 ?hp15 ?hg16 ?hl16 ?hk16 ?hp16 ?hg17 ?hl17 ?hk17 ?hp17 ?hg18 ?hl18 ?hk18 ?hp18 ?z_bool ?z_dict ?z_int ?z_isinstance ?z_len ?z_list ?z_min ?z_range
    (case hg0 => k_is)
    (case hl0 => k_is)
    (case hk0 => k_is)
    (case hp0 => k_is)
    (case hg1 => k_is)
    (case hl1 => k_is)
    (case hk1 => k_is)
    (case hp1 => k_is)
    (case hg2 => k_is)
    (case hl2 => k_is)
    (case hk2 => k_is)
    (case hp2 => k_is)
    (case hg3 => k_is)
    (case hl3 => k_is)
    (case hk3 => k_is)
    (case hp3 => k_is)
    (case hg4 => k_is)
    (case hl4 => k_is)
    (case hk4 => k_is)
    (case hp4 => k_is)
    (case hg5 => k_is)
    (case hl5 => k_is)
    (case hk5 => k_is)
    (case hp5 => k_is)
    (case hg6 => k_is)
    (case hl6 => k_is)
    (case hk6 => k_is)
    (case hp6 => k_is)
    (case hg7 => k_is)
    (case hl7 => k_is)
    (case hk7 => k_is)
    (case hp7 => k_is)
    (case hg8 => k_is)
    (case hl8 => k_is)
    (case hk8 => k_is)
    (case hp8 => k_is)
    (case hg9 => k_is)
    (case hl9 => k_is)
    (case hk9 => k_is)
    (case hp9 => k_is)
    (case hg10 => k_is)
    (case hl10 => k_is)
    (case hk10 => k_is)
    (case hp10 => k_is)
    (case hg11 => k_is)
    (case hl11 => k_is)
    (case hk11 => k_is)
    (case hp11 => k_is)
    (case hg12 => k_is)
    (case hl12 => k_is)
    (case hk12 => k_is)
    (case hp12 => k_is)
    (case hg13 => k_is)
    (case hl13 => k_is)
    (case hk13 => k_is)
    (case hp13 => k_is)
    (case hg14 => k_is)
    (case hl14 => k_is)
    (case hk14 => k_is)
    (case hp14 => k_is)
    (case hg15 => k_is)
    (case hl15 => k_is)
    (case hk15 => k_is)
    (case hp15 => k_is)
    (case hg16 => k_is)
    (case hl16 => k_is)
    (case hk16 => k_is)
    (case hp16 => k_is)
    (case hg17 => k_is)
    (case hl17 => k_is)
    (case hk17 => k_is)
    (case hp17 => k_is)
    (case hg18 => k_is)
    (case hl18 => k_is)
    (case hk18 => k_is)
    (case hp18 => k_is)
    (case z_bool => k_is)
    (case z_dict => k_is)
    (case z_int => k_is)
    (case z_isinstance => k_is)
    (case z_len => k_is)
    (case z_list => k_is)
    (case z_min => k_is)
    (case z_range => k_is)


