/-
  A store into a list of one's own, whose row no other value knows: the region 'b[at] = b[at] ^ (1 << bit)'.
-/
import Derived.Test.YtdehaeillolhbaaM23
namespace Go.Eng
noncomputable section
variable {P:Program} {O:FuncId->Option Value}
theorem splice_at {l:List (Option Value)} {o:Nat} {x:Option Value} (h:o < l.length) (j:Nat):(spliceL l o [x])[j]? = if j=o then some x else l[j]?:=by
 have e:spliceL l o [x]=l.set o x:=by
  unfold spliceL
  apply List.ext_getElem?
  intro j
  rw[List.getElem?_set]
  by_cases h1:j < o
  ·rw[if_neg (by omega),List.append_assoc,List.getElem?_append_left (by rw[List.length_take]; omega),List.getElem?_take,if_pos h1]
  ·by_cases h2:j=o
   ·subst h2
    rw[if_pos rfl,if_pos h,List.append_assoc,List.getElem?_append_right (by rw[List.length_take]; omega),List.length_take,show j - min j l.length=0 by omega]; rfl
   ·rw[if_neg (by omega),List.getElem?_append_right (by rw[List.length_append,List.length_take,List.length_singleton]; omega),List.getElem?_drop]
    congr 1
    simp only[List.length_append,List.length_take,List.length_singleton]; omega
 rw[e,List.getElem?_set]
 by_cases h2:o=j
 ·subst h2; rw[if_pos rfl,if_pos rfl,if_pos h]
 ·rw[if_neg h2,if_neg (Ne.symm h2)]
end
end Go.Eng
