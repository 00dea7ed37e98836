/- Contracts of functions of this program. Conditions: none. -/
import Derived.Test.YtdnghpfmobnjlaaGreatWf
import Derived.Test.YtdnghpfmobnjlaaGreatVp
import Derived.Test.YtdnghpfmobnjlaaGreatVg
set_option linter.unusedVariables false
set_option linter.unusedSimpArgs false
set_option maxRecDepth 100000
namespace Go.Crc
open Go.Vm Go.Pack Go.Rec
def entA (n k:Int) (v:List Int) (t te p:Int):AV:=.agg [.int .i64 n,.int .i64 k,.slice (.int .i64) v .view,.int .i64 t,.int .i64 te,.int .i64 p]
def wiF:List AV → Tr AV
  | [.int .i64 a,.int .i64 b,.int .i64 c]=>.yes (.bool (wiB a b c))
  | _=>.no
theorem wi_ok:Con PR A n_entry_within (pureC wiF):=by
  refine pure_con0 (cfg:=cfgI) [] mixed (by kernel_rfl) (by kernel_rfl) (by kernel_rfl) fun args v hv ha S=>?_
  unfold wiF at hv
  split at hv
  · rename_i a b c
    cases hv
    have h:body PR (cfE (P:=PR) (A:=A) []) cfgI lf0 n_entry_within [.int .i64 a,.int .i64 b,.int .i64 c] S some = (bif decide (a ≥ b) then some (.bool (decide (a ≤ c)),[],S) else some (.bool false,[],S)):=by kernel_rfl
    rw [h]
    unfold wiB
    by_cases h0:b ≤ a
    · rw [decide_eq_true (show a ≥ b from h0)]; rfl
    · rw [decide_eq_false (show ¬ a ≥ b from h0)]; rfl
  · cases hv
def wiE:Ent PR A:=⟨n_entry_within,_,wi_ok⟩
def erF:List AV → Tr AV
  | [.agg [.int .i64 n,.int .i64 k,.slice (.int .i64) v .view,.int .i64 t,.int .i64 te,.int .i64 p]]=>.yes (.bool (entR n k v t te p))
  | _=>.no
theorem len0 {v:List Int}:((v.length:Int) == 0) = decide (v.length = 0):=by
  by_cases h:v.length = 0
  · simp [h]
  · simp [h]
theorem er_ok:Con PR A n_entry_Right (pureC erF):=by
  refine pure_con0 (cfg:=cfgI) [wiE,vrE] mixed (by kernel_rfl) (by kernel_rfl) (by kernel_rfl) fun args v hv ha S=>?_
  unfold erF at hv
  split at hv
  · rename_i n k v t te p
    cases hv
    have h:body PR (cfE [wiE,vrE]) cfgI lf0 n_entry_Right [entA n k v t te p] S some =
      (bif !wiB n 1 1099511627776 then some (AV.bool false,[],S)
      else bif k == 1 then
        bif vecR v then bif t == 0 then some (AV.bool (te == 0 && (p == 0 && true)),[],S) else some (AV.bool false,[],S) else some (AV.bool false,[],S)
      else bif k == 2 then
        bif (v.length:Int) == 0 then bif wiB t 0 1073741824 then bif wiB te 1 64 then some (AV.bool (wiB p 0 1099511627776),[],S) else some (AV.bool false,[],S)
          else some (AV.bool false,[],S) else some (AV.bool false,[],S)
      else some (AV.bool false,[],S)):=by kernel_rfl
    refine h.trans ?_
    unfold entR
    rw [len0]
    cases wiB n 1 1099511627776 with
    | false=>rfl
    | true =>
      cases k == 1 with
      | true=>cases vecR v <;> cases t == 0 <;> cases te == 0 <;> cases p == 0 <;> rfl
      | false=>cases k == 2 <;> cases decide (v.length = 0) <;> cases wiB t 0 1073741824 <;> cases wiB te 1 64 <;> cases wiB p 0 1099511627776 <;> rfl
  · cases hv
def erE:Ent PR A:=⟨n_entry_Right,_,er_ok⟩
def cfgEt:Cfg:=cfgOf [(n_pack_Num,[0]),(n_pack_Text,[0])] [n_pack_Num,n_pack_Text,n_crc_New,n_crc_Table_Put,n_pack_NewReader] []
def esF:List AV → Tr AV
  | [.agg [.int .i64 n,.int .i64 k,.slice (.int .i64) v .view,.int .i64 t,.int .i64 te,.int .i64 p],.agg [.int .i64 n',.int .i64 k',.slice (.int .i64) v' .view,.int .i64 t',.int .i64 te',.int .i64 p']]=>.yes (.bool (esameB n k v t te p n' k' v' t' te' p'))
  | _=>.no
theorem es_ok:Con PR A n_entry_Same (pureC esF):=by
  refine pure_con0 (cfg:=cfgEt) [seE] mixed (by kernel_rfl) (by kernel_rfl) (by kernel_rfl) fun args v hv ha S=>?_
  unfold esF at hv
  split at hv
  · rename_i n k v t te p n' k' v' t' te' p'
    cases hv
    have h:body PR (cfE [seE]) cfgEt lf0 n_entry_Same [entA n k v t te p,entA n' k' v' t' te' p'] S some =
      (bif n == n' then bif k == k' then bif v == v' then bif t == t' then some (AV.bool (te == te' && (p == p' && true)),[],S) else some (AV.bool false,[],S)
        else some (AV.bool false,[],S) else some (AV.bool false,[],S) else some (AV.bool false,[],S)):=by kernel_rfl
    refine h.trans ?_
    unfold esameB
    cases n == n' <;> cases k == k' <;> cases v == v' <;> cases t == t' <;> cases te == te' <;> cases p == p' <;> rfl
  · cases hv
def esE:Ent PR A:=⟨n_entry_Same,_,es_ok⟩
end Go.Crc
namespace Go.Crc
open Go.Vm Go.Pack Go.Rec
end Go.Crc
namespace Go.Crc
open Go.Vm Go.Pack Go.Rec
end Go.Crc
